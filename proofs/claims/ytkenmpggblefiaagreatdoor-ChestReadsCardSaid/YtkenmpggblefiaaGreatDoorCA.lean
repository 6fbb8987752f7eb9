/- Words for lists that a call builds; what chests' bytes are read as. -/
import Derived.Test.YtkenmpggblefiaaGreatDoorC9
namespace Go.Proofs.YtkenmpggblefiaaGreatDoor
open Go.RowKit

/-! ### lists of the call's own -/
/-- blocks from B on, of these types -/
def okT (B : Nat) (T : List TypeId) (w : World) (b : Nat) : Prop := B ≤ b ∧ ∃ t cs, t ∈ T ∧ Blk w b t cs
theorem okT.chg {F : Nat → Prop} {w w' : World} {B : Nat} {T : List TypeId} {b : Nat} (h : okT B T w b) (k : Chg F w w') (hF : ¬ F b) : okT B T w' b := by
  obtain ⟨h1, t, cs, h2, h3⟩ := h
  exact ⟨h1, t, cs, h2, h3.chg k hF⟩
theorem okT.lt {w : World} {B : Nat} {T : List TypeId} {b : Nat} (h : okT B T w b) : b < w.heap.size := by
  obtain ⟨_, t, cs, _, h3⟩ := h
  exact h3.lt
theorem okT.mono {w : World} {B : Nat} {T T' : List TypeId} {b : Nat} (h : okT B T w b) (hT : ∀ t, t ∈ T → t ∈ T') : okT B T' w b := by
  obtain ⟨h1, t, cs, h2, h3⟩ := h
  exact ⟨h1, t, cs, hT t h2, h3⟩
/-- a list that grows: its row of the call's own, of type e; what hangs on it lies in blocks of the types T -/
def GrowV {α : Type} (d : Kn α) (w : World) (B : Nat) (e : TypeId) (T : List TypeId) (v : Value) (xs : List α) : Prop :=
  ∃ cs, w.ownsRow B e d.sz v xs.length cs ∧ ∀ j x, xs[j]? = some x → ∃ c, d.K w (okT B T w) x c ∧ ∀ i u, c[i]? = some u → cs[j * d.sz + i]? = some u
section
variable {α : Type} {d : Kn α} {w w' : World} {B : Nat} {e : TypeId} {T : List TypeId} {v v' : Value} {xs : List α}
theorem GrowV.nil (d : Kn α) (w : World) (B : Nat) (e : TypeId) (T : List TypeId) : GrowV d w B e T (.slice none 0 0) ([] : List α) :=
  ⟨[], World.ownsRow_nil _ _ _ _, fun j x h => by simp at h⟩
theorem GrowV.slV (h : GrowV d w B e T v xs) (hsz : 0 < d.sz) : SlV d w (okT B (e :: T) w) v xs := by
  obtain ⟨cs, ho, hk⟩ := h
  rcases ho.2 with ⟨rfl, h0⟩ | ⟨g, cap, cur, rfl, hb, hh, h1, h2, h3, h4⟩
  · have : xs = [] := List.eq_nil_of_length_eq_zero h0
    subst this
    exact SlV.nil
  · refine ⟨_, cap, rfl, h1, h2, by simp only [maxLen] at h2; omega, fun hn => ⟨⟨g, 0, none⟩, rfl, ⟨hb, e, cur, by simp, hh⟩, Blk.lt hh, fun j x hj => ?_⟩⟩
    obtain ⟨c, hc, hcell⟩ := hk j x hj
    refine ⟨c, d.move (fun b ho _ => ⟨ho.mono fun t ht => List.mem_cons_of_mem _ ht, rfl⟩) hc, fun i u hu => ?_⟩
    exact ho.cells (g := g) rfl _ u (hcell i u hu)
theorem GrowV.chg {F : Nat → Prop} (h : GrowV d w B e T v xs) (k : Chg F w w') (hF : ∀ i, B ≤ i → i < w.heap.size → ¬ F i) : GrowV d w' B e T v xs := by
  obtain ⟨cs, ho, hk⟩ := h
  refine ⟨cs, own_chg ho k (fun g hg => hF g (ho.lt g hg).1 (ho.lt g hg).2), fun j x hj => ?_⟩
  obtain ⟨c, hc, hcell⟩ := hk j x hj
  exact ⟨c, d.move (fun b hb hlt => ⟨hb.chg k (hF b hb.1 hlt), k.block b hlt (hF b hb.1 hlt)⟩) hc, hcell⟩
theorem GrowV.below (h : GrowV d w B e T v xs) (k : Below w.heap.size w w') : GrowV d w' B e T v xs := h.chg (Chg.of_below k (fun _ => False)) (fun _ _ _ h => h)
/-- what turns is a block of none of these types -/
theorem GrowV.chgT {F : Nat → Prop} (h : GrowV d w B e T v xs) (k : Chg F w w') (hF : ∀ i, F i → i < w.heap.size → ∃ t cs, t ∉ e :: T ∧ Blk w i t cs) : GrowV d w' B e T v xs := by
  obtain ⟨cs, ho, hk⟩ := h
  have hno : ∀ i t cs, t ∈ e :: T → Blk w i t cs → ¬ F i := by
    intro i t cs ht hb hf
    obtain ⟨t', cs', hn, hb'⟩ := hF i hf hb.lt
    exact Blk.ne_ hb hb' (by rintro rfl; exact hn ht) rfl
  refine ⟨cs, own_chg ho k (fun g hg => ?_), fun j x hj => ?_⟩
  · rcases ho.2 with ⟨rfl, _⟩ | ⟨g', cap, cur, rfl, _, hh, _⟩
    · simp [Value.ownBlock] at hg
    · simp [Value.ownBlock] at hg
      subst hg
      exact hno g' e cur (by simp) hh
  · obtain ⟨c, hc, hcell⟩ := hk j x hj
    refine ⟨c, d.move (fun b hb hlt => ?_) hc, hcell⟩
    have hf : ¬ F b := by
      obtain ⟨_, t, cs, ht, hb⟩ := hb
      exact hno b t cs (List.mem_cons_of_mem _ ht) hb
    exact ⟨hb.chg k hf, k.block b hlt hf⟩
theorem GrowV.push {x : α} {c cs : List Value} (h : ∀ j x, xs[j]? = some x → ∃ c, d.K w (okT B T w) x c ∧ ∀ i u, c[i]? = some u → cs[j * d.sz + i]? = some u) (hcl : cs.length = xs.length * d.sz)
    (hk : d.K w (okT B T w) x c) (hn : e ∉ T) (hv : ∀ g, v.ownBlock = some g → ∃ cur, Blk w g e cur) (hg : w.grownBy w' v.ownBlock) (ho' : w'.ownsRow B e d.sz v' (xs.length + 1) (cs ++ c)) : GrowV d w' B e T v' (xs ++ [x]) := by
  have hmv : ∀ b, okT B T w b → b < w.heap.size → okT B T w' b ∧ w'.heap[b]? = w.heap[b]? := by
    intro b hb hlt
    have hf : ¬ some b = v.ownBlock := by
      intro hbv
      obtain ⟨cur, hcur⟩ := hv b hbv.symm
      obtain ⟨_, t, cs, ht, hb⟩ := hb
      exact Blk.ne_ hb hcur (by rintro rfl; exact hn ht) rfl
    exact ⟨hb.chg (Chg.of_grown hg) hf, (Chg.of_grown hg).block b hlt hf⟩
  refine ⟨cs ++ c, by rw [List.length_append, List.length_singleton]; exact ho', fun j y hj => ?_⟩
  by_cases hlt : j < xs.length
  · rw [List.getElem?_append_left hlt] at hj
    obtain ⟨c', hc', hcell⟩ := h j y hj
    refine ⟨c', d.move hmv hc', fun i u hu => ?_⟩
    have h1 := hcell i u hu
    rw [List.getElem?_append_left]
    · exact h1
    · rcases Nat.lt_or_ge (j * d.sz + i) cs.length with h | h
      · exact h
      · rw [List.getElem?_eq_none h] at h1; cases h1
  · rw [List.getElem?_append_right (by omega)] at hj
    have hj0 : j - xs.length = 0 := by
      rcases Nat.eq_zero_or_pos (j - xs.length) with h | h
      · exact h
      · rw [List.getElem?_eq_none (by simp; omega)] at hj; cases hj
    rw [hj0] at hj
    cases hj
    obtain rfl : j = xs.length := by omega
    exact ⟨c, d.move hmv hk, fun i u hu => by rw [List.getElem?_append_right (by omega), hcl, Nat.add_sub_cancel_left]; exact hu⟩
end
theorem own_blk {w : World} {B : Nat} {e : TypeId} {size n : Nat} {v : Value} {xs : List Value} (h : w.ownsRow B e size v n xs) (g : Nat) (hg : v.ownBlock = some g) : ∃ cur, Blk w g e cur := by
  rcases h.2 with ⟨rfl, _⟩ | ⟨g', cap, cur, rfl, _, hh, _⟩
  · simp [Value.ownBlock] at hg
  · simp [Value.ownBlock] at hg
    subst hg
    exact ⟨cur, hh⟩
/-- append(v, y), y's cells in a box of its own -/
theorem wpList_grow {P : Program} {W : World} {ops : Array Oper} {rest : List Oper} {o : Oper} {a : Act} {Q : Exit → Act → World → Prop} (hgd : o.guard = none) (s x : Operand) (t : TypeId)
    (ho : o.op = .call { callee := .builtin .append, args := #[s, x], argTypes := #[t, t] })
    (B : Nat) (e : TypeId) (z : Value) (size bytes : Nat) (ht : P.underlying t = some (.slice e)) (hinfo : (P.info? e).map (fun i => (i.zero, i.size, i.bytes)) = some (some z, size, bytes)) (hzs : z.cells.size = size)
    {α : Type} (d : Kn α) (hd : d.sz = size) (hsz : 0 < size) (T : List TypeId) (hT : e ∉ T) (v : Value) (xs : List α) (y : α) (c : List Value) (g : Nat) (hg : Blk W g e c.toArray) (hs : a.eval s = v) (hx : a.eval x = .slice (some ⟨g, 0, none⟩) 1 1)
    (hv : GrowV d W B e T v xs) (hy : d.K W (okT B T W) y c) (h63 : xs.length + 1 ≤ maxLen) (hbytes : (xs.length + 1) * bytes ≤ 140737488355328) (hB : B ≤ W.heap.size)
    (h : ∀ v' w', GrowV d w' B e T v' (xs ++ [y]) → W.grownBy w' v.ownBlock → (∀ b, v.ownBlock = some b → B ≤ b ∧ ∃ cur, Blk W b e cur) → wpList P ops Q rest (a.put o.dst v') w') : wpList P ops Q (o :: rest) a W := by
  subst hd
  obtain ⟨cs, hown, hk⟩ := hv
  have hcl := d.len hy
  refine wpList_append_acc W hgd s x t ho B e z d.sz bytes ht hinfo hzs hsz v xs.length cs hs (Or.inl hown) (some ⟨g, 0, none⟩) 1 1 c hx (by rw [hcl, Nat.one_mul]) (fun _ => ⟨_, rfl⟩) ?_ (d.one hy) h63 hbytes hB ?_
  · rintro ad ⟨⟩ j u hu
    exact World.news_of_block (cs := c.toArray) (t := e) (fr := (0, 0)) hg j u (by simpa using hu)
  · intro v' w' _ ho' hgr _ _
    refine h v' w' (GrowV.push hk hown.1 hy hT (own_blk hown) hgr (ho' (by omega))) hgr fun b hb => ⟨(hown.lt b hb).1, own_blk hown b hb⟩

/-! ### reading -/
def lys (xs : List UInt8) (p : Nat) : Nat → Option (List (List UInt8) × Nat)
  | 0 => some ([], p)
  | j + 1 => (lys xs p j).bind fun s => (tkO xs (some s.2)).map fun t => (s.1 ++ [t.1], t.2)
def tkChest (xs : List UInt8) (q : Nat) : Option (Chest × Nat) :=
  match tkAt xs (tkAt xs (some q)) with
  | none => none
  | some e => if e + 4 > xs.length then none else if gB (xs.drop e) 4 > 64 then none else (lys xs (e + 4) (gB (xs.drop e) 4)).map fun s => (⟨tkRow xs (some q), tkRow xs (tkAt xs (some q)), s.1⟩, s.2)
def chs (xs : List UInt8) (p : Nat) : Nat → Option (List Chest × Nat)
  | 0 => some ([], p)
  | k + 1 => (chs xs p k).bind fun s => (tkChest xs s.2).map fun t => (s.1 ++ [t.1], t.2)
def parse (xs : List UInt8) : Option (List Chest) :=
  if gB (xs.drop 4) 4 > 1024 then none else (chs xs 8 (gB (xs.drop 4) 4)).bind fun s => if s.2 = xs.length then some s.1 else none
theorem lys_none {xs : List UInt8} {p j : Nat} (h : lys xs p j = none) : ∀ k, j ≤ k → lys xs p k = none
  | 0, hk => by
    obtain rfl : j = 0 := by omega
    exact h
  | k + 1, hk => by
    by_cases e : j = k + 1
    · rw [← e]; exact h
    · have := lys_none h k (by omega)
      rw [lys, this]
      rfl
theorem chs_none {xs : List UInt8} {p j : Nat} (h : chs xs p j = none) : ∀ k, j ≤ k → chs xs p k = none
  | 0, hk => by
    obtain rfl : j = 0 := by omega
    exact h
  | k + 1, hk => by
    by_cases e : j = k + 1
    · rw [← e]; exact h
    · have := chs_none h k (by omega)
      rw [chs, this]
      rfl
theorem tkAt_le {xs : List UInt8} {o : Option Nat} {q : Nat} (h : tkAt xs o = some q) : q ≤ xs.length := by
  unfold tkAt at h
  rcases o with _ | p
  · simp [tkO] at h
  · simp only [tkO, Option.bind] at h
    rcases ht : tk xs p with _ | ⟨t, z⟩
    · rw [ht] at h; simp at h
    · rw [ht] at h
      simp at h
      subst h
      exact (tk_le ht).1
theorem tkRow_le (xs : List UInt8) (o : Option Nat) : (tkRow xs o).length ≤ xs.length := by
  unfold tkRow
  rcases o with _ | p
  · simp [tkO]
  · simp only [tkO, Option.bind]
    rcases ht : tk xs p with _ | ⟨t, z⟩
    · simp
    · simp
      exact (tk_le ht).2.1
theorem lys_le {xs : List UInt8} {p : Nat} (hp : p ≤ xs.length) : ∀ {j : Nat} {s : List (List UInt8) × Nat}, lys xs p j = some s → s.2 ≤ xs.length ∧ s.1.length = j
  | 0, s, h => by
    simp [lys] at h
    subst h
    exact ⟨hp, rfl⟩
  | j + 1, s, h => by
    rw [lys] at h
    rcases hl : lys xs p j with _ | s'
    · rw [hl] at h; simp at h
    · rw [hl] at h
      simp only [Option.bind] at h
      rcases ht : tkO xs (some s'.2) with _ | t
      · rw [ht] at h; simp at h
      · rw [ht] at h
        simp at h
        subst h
        have h2 := lys_le hp hl
        exact ⟨tkAt_le (o := some s'.2) (by unfold tkAt; rw [ht]; rfl), by simp [h2.2]⟩
theorem tkChest_le {xs : List UInt8} {q : Nat} {s : Chest × Nat} (h : tkChest xs q = some s) : s.2 ≤ xs.length := by
  unfold tkChest at h
  split at h
  · cases h
  · rename_i e he
    split at h
    · cases h
    · split at h
      · cases h
      · rcases hl : lys xs (e + 4) (gB (xs.drop e) 4) with _ | s'
        · rw [hl] at h; simp at h
        · rw [hl] at h
          simp at h
          subst h
          exact (lys_le (by omega) hl).1
theorem chs_le {xs : List UInt8} {p : Nat} (hp : p ≤ xs.length) : ∀ {j : Nat} {s : List Chest × Nat}, chs xs p j = some s → s.2 ≤ xs.length ∧ s.1.length = j
  | 0, s, h => by
    simp [chs] at h
    subst h
    exact ⟨hp, rfl⟩
  | j + 1, s, h => by
    rw [chs] at h
    rcases hl : chs xs p j with _ | s'
    · rw [hl] at h; simp at h
    · rw [hl] at h
      simp only [Option.bind] at h
      rcases ht : tkChest xs s'.2 with _ | t
      · rw [ht] at h; simp at h
      · rw [ht] at h
        simp at h
        subst h
        exact ⟨tkChest_le ht, by simp [(chs_le hp hl).2]⟩
/-- what is read: a code, and chests -/
def headBad (xs : List UInt8) : Bool := decide (xs.length < 40) || decide (xs.take 4 ≠ [79, 67, 72, 49])
def fromOf (s : Cr) (xs : List UInt8) : Nat × List Chest :=
  if headBad xs = true then (8, []) else if s.dig (xs.take (xs.length - 32)) ≠ xs.drop (xs.length - 32) then (6, []) else
    match parse (xs.take (xs.length - 32)) with
    | none => (8, [])
    | some l => (0, l)
def fromNext (s : Cr) (xs : List UInt8) : Cr := if headBad xs = true then s else s.next (xs.take (xs.length - 32))
end Go.Proofs.YtkenmpggblefiaaGreatDoor
