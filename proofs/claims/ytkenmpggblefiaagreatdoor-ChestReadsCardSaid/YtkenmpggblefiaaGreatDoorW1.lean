/- Words for what a call builds: a new row of bytes. -/
import Derived.Test.YtkenmpggblefiaaGreatDoorS2
import Derived.Test.YtkenmpggblefiaaGreatDoorR0
import Derived.Deep.RegionLaw
import Derived.Deep.DrawnRows
import Derived.Deep.RegionHeld3
namespace Go.Proofs.YtkenmpggblefiaaGreatDoor
open Go.RowKit

/-- a call has built a row of bytes, and nothing else of what was there is another -/
def NewB (w w' : World) (e : Ending) (ys : List UInt8) : Prop := ∃ x, e = .returned x ∧ w'.ownsRow w.heap.size 5 1 x ys.length (bts ys) ∧ Below w.heap.size w w'
/-- a slice of bytes of the call's own -/
structure OwnB (w : World) (B : Nat) (A : Option Addr) (n c : Nat) (ys : List UInt8) : Prop where
  len : ys.length = n
  le : n ≤ c
  cap : c ≤ maxLen
  own : w.ownsRow B 5 1 (.slice A n c) n (bts ys)
  row : RowV Kn.byte w (fun b => B ≤ b ∧ some b = (Value.slice A n c).ownBlock) A ys
theorem ownB_of {w : World} {B : Nat} {v : Value} {n : Nat} {ys : List UInt8} (h : w.ownsRow B 5 1 v n (bts ys)) : ∃ A c, v = .slice A n c ∧ OwnB w B A n c ys := by
  obtain ⟨rfl, A, c, rfl, h1, h2, h3⟩ := bytesV_of_own h
  exact ⟨A, c, rfl, rfl, h1, h2, h, h3⟩
theorem NewB.out {w w' : World} {e : Ending} {ys : List UInt8} (h : NewB w w' e ys) (n : Nat) (hn : ys.length = n) : ∃ A c, e = .returned (.slice A n c) ∧ OwnB w' w.heap.size A n c ys ∧ Below w.heap.size w w' := by
  obtain ⟨x, rfl, ho, hb⟩ := h
  rw [hn] at ho
  obtain ⟨A, c, rfl, h1⟩ := ownB_of ho
  exact ⟨A, c, rfl, h1, hb⟩
section
variable {w w' : World} {B : Nat} {A : Option Addr} {n c : Nat} {ys : List UInt8}
theorem OwnB.kept (h : OwnB w B A n c ys) (hb : Below w.heap.size w w') : OwnB w' B A n c ys :=
  ⟨h.len, h.le, h.cap, h.own.kept (grown_of_below hb none) (by cases (Value.slice A n c).ownBlock <;> simp), h.row.below hb⟩
theorem OwnB.old (h : OwnB w B A n c ys) : RowV Kn.byte w (Go.Proofs.YtkenmpggblefiaaGreatDoor.old w) A ys := h.row.mono fun _ _ hlt => hlt
theorem OwnB.cells (h : OwnB w B A n c ys) : ∀ ad, A = some ad → ∀ j u, (bts ys)[j]? = some u → w.cell? (ad.add j) = some u := row_bytes_cells h.row
theorem OwnB.some_ (h : OwnB w B A n c ys) : 0 < n → ∃ a, A = some a := fun hn => by
  obtain ⟨ad, e, _⟩ := h.row.2 (by rw [h.len]; exact hn)
  exact ⟨ad, e⟩
theorem OwnB.blen (h : OwnB w B A n c ys) : (bts ys).length = n * 1 := by rw [bts_length, h.len, Nat.mul_one]
end
/-- bytes that are there -/
structure HasB (w : World) (A : Option Addr) (n : Nat) (xs : List UInt8) : Prop where
  len : xs.length = n
  row : RowV Kn.byte w (old w) A xs
section
variable {w w' : World} {A : Option Addr} {n : Nat} {xs : List UInt8}
theorem HasB.kept (h : HasB w A n xs) (hb : Below w.heap.size w w') : HasB w' A n xs := ⟨h.len, (h.row.below hb).mono fun _ _ hlt => hlt⟩
theorem HasB.cells (h : HasB w A n xs) : ∀ ad, A = some ad → ∀ j u, (bts xs)[j]? = some u → w.cell? (ad.add j) = some u := row_bytes_cells h.row
theorem HasB.some_ (h : HasB w A n xs) : 0 < n → ∃ a, A = some a := fun hn => by
  obtain ⟨ad, e, _⟩ := h.row.2 (by rw [h.len]; exact hn)
  exact ⟨ad, e⟩
theorem HasB.blen (h : HasB w A n xs) : (bts xs).length = n * 1 := by rw [bts_length, h.len, Nat.mul_one]
theorem OwnB.has {B c : Nat} (h : OwnB w B A n c xs) : HasB w A n xs := ⟨h.len, h.old⟩
end

/-- append(v, bytes...) to a row of the call's own -/
theorem wpList_cat {P : Program} {W w0 : World} {ops : Array Oper} {rest : List Oper} {o : Oper} {a : Act} {Q : Exit → Act → World → Prop} (hgd : o.guard = none) (s x : Operand) (t : TypeId)
    (ho : o.op = .call { callee := .builtin .append, args := #[s, x], argTypes := #[t, t] })
    (base : Nat) (ht : P.underlying t = some (.slice 5)) (hinfo : (P.info? 5).map (fun i => (i.zero, i.size, i.bytes)) = some (some (.int .u8 0), 1, 1))
    {v : Value} {n : Nat} {ys : List UInt8} (hown : W.ownsRow base 5 1 v n (bts ys)) (hs : a.eval s = v) (hb : Below base w0 W)
    {A : Option Addr} {m : Nat} (c : Nat) {xs : List UInt8} (hx : a.eval x = .slice A m c) (hh : HasB W A m xs)
    (h63 : n + m ≤ 140737488355328) (hbase : base ≤ W.heap.size)
    (h : ∀ v' w', w'.ownsRow base 5 1 v' (n + m) (bts (ys ++ xs)) → Below base w0 w' → W.grownBy w' v.ownBlock → (v'.ownBlock = v.ownBlock ∨ v'.ownBlock = some W.heap.size) → wpList P ops Q rest (a.put o.dst v') w') :
    wpList P ops Q (o :: rest) a W := by
  refine wpList_append_acc W hgd s x t ho base 5 (.int .u8 0) 1 1 ht hinfo rfl (by omega) v n _ hs (.inl hown) A m c _ hx hh.blen hh.some_ hh.cells (bts_one _) (by simp only [maxLen]; omega) (by omega) hbase ?_
  intro v' w' _ _ hg hat ho'
  have h1 := ho' hown
  rw [← bts_append] at h1
  exact h v' w' h1 (hb.grown hg hbase (fun k hk => (hown.lt k hk).1)) hg hat

/-! ### the same as steps of a region that draws its order -/
theorem step_append_acc {P : Program} {W : World} {ops : Array Oper} {o : Oper} {a : Act} {K : Act → World → Prop} {Q : Exit → Act → World → Prop} {E : Prop} (hgd : o.guard = none) (s x : Operand) (t : TypeId)
    (ho : o.op = .call { callee := .builtin .append, args := #[s, x], argTypes := #[t, t] })
    (base : Nat) (e : TypeId) (z : Value) (size bytes : Nat) (ht : P.underlying t = some (.slice e)) (hinfo : (P.info? e).map (fun i => (i.zero, i.size, i.bytes)) = some (some z, size, bytes)) (hzs : z.cells.size = size) (hsz : 0 < size)
    (v : Value) (n : Nat) (xs : List Value) (hs : a.eval s = v) (hown : Acc W base e size v n xs)
    (A : Option Addr) (m c : Nat) (news : List Value) (hx : a.eval x = .slice A m c) (hl : news.length = m * size) (hA : 0 < m → ∃ a, A = some a)
    (hnews : ∀ a, A = some a → ∀ j u, news[j]? = some u → W.cell? (a.add j) = some u) (h1 : ∀ u ∈ news, u.oneCell' = true)
    (h63 : n + m ≤ maxLen) (hbytes : (n + m) * bytes ≤ 140737488355328) (hbase : base ≤ W.heap.size)
    (h : ∀ v' w', Acc w' base e size v' (n + m) (xs ++ news) → (0 < m → w'.ownsRow base e size v' (n + m) (xs ++ news)) → W.grownBy w' v.ownBlock → (v'.ownBlock = v.ownBlock ∨ v'.ownBlock = some W.heap.size) → (W.ownsRow base e size v n xs → w'.ownsRow base e size v' (n + m) (xs ++ news)) → K (a.put o.dst v') w') :
    if Region.wanted o (yielded ops a.tmps) = true then Oper.wp P o a W K Q else E := by
  have hw : Region.wanted o (yielded ops a.tmps) = true := by simp [Region.wanted, hgd]
  rw [if_pos hw]
  obtain ⟨i, hi, hz, hsize, hby⟩ := info_parts hinfo
  obtain ⟨v', w', hr, h2, h3, h4, h5, h6⟩ := run_append_acc (P := P) W base t o.type e i z size bytes ht hi hz hsize hby hzs hsz v n xs hown A m c news hl hA hnews h1 h63 hbytes hbase
  unfold Oper.wp execOp
  simp only [ho, resolve, invoke, builtin, Sem.run_bind, Sem.run_pure, Result.andThen_ok, List.map_toArray, List.map_cons, List.map_nil, hs, hx, hr]
  exact h v' w' h2 h3 h4 h5 h6

theorem step_push {P : Program} {W w0 : World} {ops : Array Oper} {o : Oper} {a : Act} {K : Act → World → Prop} {Q : Exit → Act → World → Prop} {E : Prop} (hgd : o.guard = none) (s x : Operand) (t : TypeId)
    (ho : o.op = .call { callee := .builtin .append, args := #[s, x], argTypes := #[t, t] })
    (base : Nat) (e : TypeId) (z : Value) (bytes : Nat) (ht : P.underlying t = some (.slice e)) (hinfo : (P.info? e).map (fun i => (i.zero, i.size, i.bytes)) = some (some z, 1, bytes)) (hzs : z.cells.size = 1)
    (v : Value) (n : Nat) (xs : List Value) (y : Value) (g : Nat) (hs : a.eval s = v) (hx : a.eval x = .slice (some ⟨g, 0, none⟩) 1 1) (h1 : y.oneCell' = true)
    (hg : Blk W g e #[y]) (hown : W.ownsRow base e 1 v n xs) (hb : Below base w0 W) (h63 : n + 1 ≤ maxLen) (hbytes : (n + 1) * bytes ≤ 140737488355328) (hbase : base ≤ W.heap.size)
    (h : ∀ v' w', w'.ownsRow base e 1 v' (n + 1) (xs ++ [y]) → Below base w0 w' → W.grownBy w' v.ownBlock → (v'.ownBlock = v.ownBlock ∨ v'.ownBlock = some W.heap.size) → K (a.put o.dst v') w') :
    if Region.wanted o (yielded ops a.tmps) = true then Oper.wp P o a W K Q else E := by
  refine step_append_acc hgd s x t ho base e z 1 bytes ht hinfo hzs (by omega) v n xs hs (.inl hown) (some ⟨g, 0, none⟩) 1 1 [y] hx rfl (fun _ => ⟨_, rfl⟩) ?_ (by simpa using h1) h63 hbytes hbase ?_
  · rintro a ⟨⟩ j u hu
    exact World.news_of_block (cs := #[y]) (t := e) (fr := (0, 0)) hg j u (by simpa using hu)
  · intro v' w' _ _ hg hat ho'
    exact h v' w' (ho' hown) (hb.grown hg hbase (fun k hk => (hown.lt k hk).1)) hg hat

theorem own_empty (w : World) (B : Nat) (hB : B ≤ w.heap.size) (e : TypeId) (size : Nat) : (w.alloc (.cells #[] e)).ownsRow B e size (.slice (some ⟨w.heap.size, 0, none⟩) 0 0) 0 [] :=
  ⟨by simp, .inr ⟨w.heap.size, 0, #[], rfl, hB, heap_alloc_new w _, Nat.le_refl _, by simp [maxLen], by simp, by simp⟩⟩
theorem own_emptyB (w : World) (B : Nat) (hB : B ≤ w.heap.size) : (w.alloc (.cells #[] 5)).ownsRow B 5 1 (.slice (some ⟨w.heap.size, 0, none⟩) 0 0) 0 (bts []) := own_empty w B hB _ _
theorem below_new (w : World) (o : Obj) : Below w.heap.size w (w.alloc o) := (Below.refl _ _).alloc (Nat.le_refl _) _
theorem HasB.nil_any (w : World) (A : Option Addr) : HasB w A 0 [] := ⟨rfl, RowV.nil⟩
theorem hd_lt_t {k n : Nat} (h : k < n) : decide ((k : Int) < (n : Int)) = true := by simp; omega
theorem hd_lt_f {k n : Nat} (h : ¬ k < n) : decide ((k : Int) < (n : Int)) = false := by simp; omega
end Go.Proofs.YtkenmpggblefiaaGreatDoor
