/- Words for what a call changes; the walk of the reference's crypt. -/
import Derived.Test.YtkenmpggblefiaaGreatDoorK1
import Derived.Laws.IdiomStrings
import Derived.Lib.SlBytesConst
namespace Go.Proofs.YtkenmpggblefiaaGreatDoor
open Go.RowKit
attribute [local go_sem ↓] Go.wp_at_zero Go.wp_at_succ

/-- of what was there only blocks of F are others -/
structure Chg (F : Nat → Prop) (w w' : World) : Prop where
  os : w'.os = w.os
  tape : w'.tape = w.tape
  output : w'.output = w.output
  size : w.heap.size ≤ w'.heap.size
  block : ∀ i, i < w.heap.size → ¬ F i → w'.heap[i]? = w.heap[i]?
section
variable {F G : Nat → Prop} {w w' w'' : World}
theorem Chg.refl (F : Nat → Prop) (w : World) : Chg F w w := ⟨rfl, rfl, rfl, Nat.le_refl _, fun _ _ _ => rfl⟩
theorem Chg.trans (h : Chg F w w') (k : Chg G w' w'') (hG : ∀ i, i < w.heap.size → G i → F i) : Chg F w w'' :=
  ⟨k.os.trans h.os, k.tape.trans h.tape, k.output.trans h.output, Nat.le_trans h.size k.size, fun i hi hn => (k.block i (Nat.lt_of_lt_of_le hi h.size) (fun g => hn (hG i hi g))).trans (h.block i hi hn)⟩
theorem Chg.mono (h : Chg F w w') (hF : ∀ i, i < w.heap.size → F i → G i) : Chg G w w' := ⟨h.os, h.tape, h.output, h.size, fun i hi hn => h.block i hi (fun f => hn (hF i hi f))⟩
theorem Chg.of_below (h : Below w.heap.size w w') (F : Nat → Prop) : Chg F w w' := ⟨h.os, h.tape, h.output, h.size, fun i hi _ => h.block i hi⟩
theorem Chg.of_grown {row : Option Nat} (h : w.grownBy w' row) : Chg (fun i => some i = row) w w' := ⟨h.os, h.tape, h.output, h.size, fun i hi hn => h.block i hi hn⟩
theorem Chg.below (h : Chg F w w') {B : Nat} (hB : B ≤ w.heap.size) (hF : ∀ i, i < B → ¬ F i) : Below B w w' := ⟨h.os, h.tape, h.output, h.size, fun i hi => h.block i (by omega) (hF i hi)⟩
theorem Chg.none (h : Chg F w w') (hF : ∀ i, i < w.heap.size → ¬ F i) : Below w.heap.size w w' := h.below (Nat.le_refl _) hF
theorem Blk.chg {g : Nat} {t : TypeId} {cs : Array Value} (h : Blk w g t cs) (k : Chg F w w') (hg : ¬ F g) : Blk w' g t cs := (k.block g h.lt hg).trans h
theorem MapIs.chg {b : Nat} {ts : List (List UInt8)} (h : MapIs w b ts) (k : Chg F w w') (hg : ¬ F b) : MapIs w' b ts := (k.block b h.lt hg).trans h
theorem RowV.chg {α : Type} {d : Kn α} {ok ok' : Nat → Prop} {A : Option Addr} {xs : List α} (h : RowV d w ok A xs) (k : Chg F w w') (ho : ∀ b, b < w.heap.size → ok b → ok' b ∧ ¬ F b) : RowV d w' ok' A xs :=
  h.move fun b hb hlt => ⟨(ho b hlt hb).1, k.block b hlt (ho b hlt hb).2⟩
theorem own_chg {base : Nat} {e : TypeId} {size n : Nat} {v : Value} {xs : List Value} (h : w.ownsRow base e size v n xs) (k : Chg F w w') (hv : ∀ g, v.ownBlock = some g → ¬ F g) : w'.ownsRow base e size v n xs := by
  refine ⟨h.1, ?_⟩
  rcases h.2 with h2 | ⟨g, cap, cur, rfl, hb, hh, h1, h2, h3⟩
  · exact .inl h2
  · refine .inr ⟨g, cap, cur, rfl, hb, ?_, h1, h2, h3⟩
    have hlt : g < w.heap.size := Blk.lt (t := e) (cs := cur) hh
    rw [k.block g hlt (hv g (by simp [Value.ownBlock]))]
    exact hh
end

/-- append of zeros where there is no room -/
theorem run_append_zeros_grow {P : Program} {w : World} (t tn ty e : TypeId) (i : TypeInfo) (z : Value) (kn : IntKind) (ht : P.underlying t = some (.slice e)) (htn : P.underlying tn = some (.int kn)) (hi : P.info? e = some i) (hz : i.zero = some z)
    (b : Addr) (sLen sCap : Nat) (olds : List Value) (hlo : olds.length = sLen * i.size) (holds : ∀ j v, olds[j]? = some v → w.cell? (b.add j) = some v)
    (n : Nat) (hn0 : 0 < n * i.size) (hg : sCap < sLen + n) (h63 : sLen + n ≤ 70368744177664) (hb : (sLen + n) * i.bytes ≤ 140737488355328) :
    (Builtin.append_ #[t, tn] ty #[.slice (some b) sLen sCap, .int .i64 (n : Int)]).run P w =
      .ok (.slice (some ⟨w.heap.size, 0, none⟩) (sLen + n) (grownCap w (sLen + n) sCap e))
        (w.drew.alloc (.cells (olds.toArray ++ Builtin.zeroCells z.cells n ++ Builtin.zeroCells z.cells (grownCap w (sLen + n) sCap e - (sLen + n))) e)) := by
  have hn : ¬ (sLen + n ≤ sCap) := by omega
  have h63' : ¬ (9223372036854775807 < ((sLen : Int) + (n : Int))) := by omega
  have hfit := growslice_fits (need := sLen + n) (old := sCap) (bytes := i.bytes) (by omega) hb
  have h48' : ¬ (281474976710656 < Builtin.nextslicecap (sLen + n) sCap * i.bytes) := by omega
  have hw : IntKind.i64.wrap (n : Int) = n := IntWalk.i64_in _ (by omega)
  have hneg : ¬ ((n : Int) < 0) := by omega
  have hnb : n * i.bytes ≤ (sLen + n) * i.bytes := Nat.mul_le_mul_right _ (by omega)
  have h48i : ¬ (281474976710656 < (n : Int) * (i.bytes : Int)) := by
    rw [← Int.natCast_mul]
    omega
  have hnz : ¬ (n = 0 ∨ i.size = 0) := by
    intro h
    rcases h with h | h <;> simp [h] at hn0
  have hfo := run_firstCells_some (P := P) w.drew i.size sLen b sLen sCap olds hlo (by simpa using holds)
  simp [Builtin.append_, run_underlying ht, run_underlying htn, sizeOf, typeInfo, zeroValue, hi, hz, asInt, asIntOf, hw, hneg, h48i, Builtin.lenOf, hn, h63', h48', hnz, Question.forced, hfo, newRow, grownCap]
  intro h0
  omega

theorem step_cat {P : Program} {W w0 : World} {ops : Array Oper} {o : Oper} {a : Act} {K : Act → World → Prop} {Q : Exit → Act → World → Prop} {E : Prop} (hgd : o.guard = none) (s x : Operand) (t : TypeId)
    (ho : o.op = .call { callee := .builtin .append, args := #[s, x], argTypes := #[t, t] })
    (base : Nat) (ht : P.underlying t = some (.slice 5)) (hinfo : (P.info? 5).map (fun i => (i.zero, i.size, i.bytes)) = some (some (.int .u8 0), 1, 1))
    {v : Value} {n : Nat} {ys : List UInt8} (hown : W.ownsRow base 5 1 v n (bts ys)) (hs : a.eval s = v) (hb : Below base w0 W)
    {A : Option Addr} {m : Nat} (c : Nat) {xs : List UInt8} (hx : a.eval x = .slice A m c) (hh : HasB W A m xs)
    (h63 : n + m ≤ 140737488355328) (hbase : base ≤ W.heap.size)
    (h : ∀ v' w', w'.ownsRow base 5 1 v' (n + m) (bts (ys ++ xs)) → Below base w0 w' → W.grownBy w' v.ownBlock → (v'.ownBlock = v.ownBlock ∨ v'.ownBlock = some W.heap.size) → K (a.put o.dst v') w') :
    if Region.wanted o (yielded ops a.tmps) = true then Oper.wp P o a W K Q else E := by
  refine step_append_acc hgd s x t ho base 5 (.int .u8 0) 1 1 ht hinfo rfl (by omega) v n _ hs (.inl hown) A m c _ hx hh.blen hh.some_ hh.cells (bts_one _) (by simp only [maxLen]; omega) (by omega) hbase ?_
  intro v' w' _ _ hg hat ho'
  have h1 := ho' hown
  rw [← bts_append] at h1
  exact h v' w' h1 (hb.grown hg hbase (fun k hk => (hown.lt k hk).1)) hg hat
theorem zeroCells_bytes (n : Nat) : Builtin.zeroCells #[Value.int .u8 0] n = (bts (List.replicate n 0)).toArray := by
  apply Array.ext'
  apply List.ext_getElem
  · simp [Builtin.zeroCells, bts]
  · intro i h1 h2
    simp [Builtin.zeroCells, bts, Nat.mod_one]
/-- append(row, make([]byte, n)...), the row being full -/
theorem wpList_zeros {W w0 : World} {ops : Array Oper} {rest : List Oper} {o : Oper} {a : Act} {Q : Exit → Act → World → Prop} (hgd : o.guard = none) (s x : Operand)
    (ho : o.op = .call { callee := .builtin .append, args := #[s, x], argTypes := #[33, 3] })
    (b : Addr) (m : Nat) (ys : List UInt8) (n : Nat) (hl : ys.length = m) (hs : a.eval s = .slice (some b) m m) (hx : a.eval x = .int .i64 (n : Int)) (hcell : ∀ j v, (bts ys)[j]? = some v → W.cell? (b.add j) = some v)
    (hn : 0 < n) (hsz : m + n ≤ 1000000) (base : Nat) (hb : Below base w0 W) (hbase : base ≤ W.heap.size)
    (h : ∀ v' w', w'.ownsRow base 5 1 v' (m + n) (bts (ys ++ List.replicate n 0)) → Below base w0 w' → wpList Tryz.prog ops Q rest (a.put o.dst v') w') :
    wpList Tryz.prog ops Q (o :: rest) a W := by
  obtain ⟨i, hi, hz, hsize, hby⟩ := info_parts Tryz.info5
  have hrun := run_append_zeros_grow (P := Tryz.prog) (w := W) 33 3 o.type 5 i (.int .u8 0) .i64 Tryz.underlying33 Tryz.underlying3 hi hz b m m (bts ys) (by rw [bts_length, hl, hsize, Nat.mul_one]) hcell n (by rw [hsize]; omega) (by omega) (by omega) (by rw [hby]; omega)
  have hcap := grownCap_le_maxLen W (m + n) m 5 (by simp only [maxLen]; omega)
  have hge := grownCap_ge W (m + n) m 5
  refine wpList_plain hgd fun K hK => ?_
  unfold Oper.wp execOp
  simp only [ho, resolve, invoke, builtin, Sem.run_bind, Sem.run_pure, Result.andThen_ok, List.map_toArray, List.map_cons, List.map_nil, hs, hx, hrun]
  refine hK _ _ (h _ _ ?_ ((hb.drew).alloc hbase _))
  have e : Value.cells (.int .u8 0) = #[Value.int .u8 0] := rfl
  rw [e, zeroCells_bytes, zeroCells_bytes]
  refine ⟨by rw [bts_length]; simp [hl], .inr ⟨W.heap.size, _, _, rfl, hbase, heap_alloc_new W.drew _, hge, hcap, ?_, ?_⟩⟩
  · simp [bts, hl]; omega
  · simp [bts, hl, List.take_append]
    exact List.take_of_length_le (by simp [hl])

set_option maxHeartbeats 400000 in
theorem rbig_any (n : Nat) (w : World) (hn : n < 9223372036854775808) :
    Calls Tryz.prog 29 #[.int .i64 n] w fun e w' => ∃ A c, e = .returned (.slice A 8 c) ∧ OwnB w' w.heap.size A 8 c (beB n 8) ∧ Below w.heap.size w w' := by
  go_enter Tryz.func29, Tryz.ntmps29
  go_wp2_with fail
  refine (Little_new n 8 _ (by omega) (by omega)).mono ?_
  rintro e w1 ⟨A1, c1, rfl, h1, hb1⟩
  go_wp2_with fail
  refine (Back_new A1 c1 8 _ _ h1.has (by omega)).mono ?_
  rintro e w2 ⟨A2, c2, rfl, h2, hb2⟩
  go_wp2_with fail
  go_ret
  rw [leB_reverse] at h2
  obtain ⟨A3, c3, e3, h4⟩ := ownB_of (w := w2) (B := w.heap.size) (v := .slice A2 8 c2) (n := 8) (ys := beB n 8) ⟨h2.own.1, h2.own.2.imp id (fun ⟨a, b, d, e1, e2, e3⟩ => ⟨a, b, d, e1, Nat.le_trans hb1.size e2, e3⟩)⟩
  cases e3
  exact ⟨A2, c2, rfl, h4, below_next hb1 hb2⟩

/-- rows of bytes, of G -/
def okB (G : Nat → Prop) (w : World) : Nat → Prop := fun b => G b ∧ ∃ cs, Blk w b 5 cs
theorem okB.chg {G F : Nat → Prop} {w w' : World} {b : Nat} (h : okB G w b) (k : Chg F w w') (hF : ¬ F b) : okB G w' b := by
  obtain ⟨hg, cs, h⟩ := h
  exact ⟨hg, cs, h.chg k hF⟩
theorem okB.lt {G : Nat → Prop} {w : World} {b : Nat} (h : okB G w b) : b < w.heap.size := by
  obtain ⟨_, _, h⟩ := h
  exact h.lt
theorem okB.has {G : Nat → Prop} {w : World} {A : Option Addr} {n : Nat} {t : List UInt8} (h : RowV Kn.byte w (okB G w) A t) (hn : t.length = n) : HasB w A n t := ⟨hn, h.mono fun _ _ hlt => hlt⟩
theorem OwnB.okB {w : World} {B : Nat} {A : Option Addr} {n c : Nat} {ys : List UInt8} (h : OwnB w B A n c ys) : RowV Kn.byte w (okB (fun b => B ≤ b) w) A ys := by
  refine h.row.mono fun b hb _ => ⟨hb.1, ?_⟩
  rcases h.own.2 with ⟨e, _⟩ | ⟨g, cap, cur, e, _, hh, _⟩
  · rw [e] at hb
    simp [Value.ownBlock] at hb
  · rw [e] at hb
    simp [Value.ownBlock] at hb
    rw [hb.2]
    exact ⟨cur, hh⟩
/-- the texts of the reference's book: the cells of vt's row -/
structure TextsIs (G : Nat → Prop) (w : World) (vt : Value) (ts : List (List UInt8)) (cs : List Value) : Prop where
  own : w.ownsRow 0 33 1 vt ts.length cs
  each : ∀ (i : Nat) (t : List UInt8), ts[i]? = some t → ∃ A c, cs[i]? = some (Value.slice A t.length c) ∧ RowV Kn.byte w (okB G w) A t
def Cr.ideal : Cr → Bool
  | .real => false
  | .book _ => true
def Cr.texts : Cr → List (List UInt8)
  | .real => []
  | .book ts => ts
/-- the reference's crypt at block r -/
structure RefIs (G : Nat → Prop) (w : World) (r : Nat) (vt vb : Value) (s : Cr) : Prop where
  head : Blk w r 32 #[.bool s.ideal, vt, vb]
  texts : ∃ cs, TextsIs G w vt s.texts cs

set_option maxHeartbeats 400000 in
theorem rSum_real (G : Nat → Prop) (r : Nat) (vt vb : Value) (A : Option Addr) (c n : Nat) (xs : List UInt8) (w : World) (h : HasB w A n xs) (hr : RefIs G w r vt vb .real) (hx : n < 100000000000000) :
    Calls Tryz.prog 13 #[.pointer (some ⟨r, 0, none⟩), .slice A n c] w fun e w' => ∃ x, e = .returned x ∧ w'.ownsRow w.heap.size 5 1 x 32 (bts (shaOf xs)) ∧ Below w.heap.size w w' := by
  have hc0 : w.cell? ⟨r, 0, none⟩ = some (.bool false) := hr.head.cell 0
  have H := Lib.hid h
  have HR := Lib.hid hr
  clear h hr
  go_enter Tryz.func13, Tryz.ntmps13
  go_wp2_with fail
  refine (rOf_any A c n xs _ H.out hx).mono ?_
  rintro e w' ⟨x, rfl, ho, hb⟩
  rw [shaOf_length] at ho
  go_wp2_with fail
  go_ret
  exact ⟨x, rfl, ho, hb⟩

theorem TextsIs.chg {G F : Nat → Prop} {w w' : World} {vt : Value} {ts : List (List UInt8)} {cs : List Value} (h : TextsIs G w vt ts cs) (k : Chg F w w') (hv : ∀ g, vt.ownBlock = some g → ¬ F g) (hF : ∀ b, okB G w b → ¬ F b) : TextsIs G w' vt ts cs :=
  ⟨own_chg h.own k hv, fun i t ht => by
    obtain ⟨A, c, hc, hr⟩ := h.each i t ht
    exact ⟨A, c, hc, hr.chg k fun b _ hb => ⟨hb.chg k (hF b hb), hF b hb⟩⟩⟩
theorem RefIs.chg {G F : Nat → Prop} {w w' : World} {r : Nat} {vt vb : Value} {s : Cr} (h : RefIs G w r vt vb s) (k : Chg F w w') (hr : ¬ F r) (hv : ∀ g, vt.ownBlock = some g → ¬ F g) (hF : ∀ b, okB G w b → ¬ F b) : RefIs G w' r vt vb s :=
  ⟨h.head.chg k hr, by
    obtain ⟨cs, ht⟩ := h.texts
    exact ⟨cs, ht.chg k hv hF⟩⟩
theorem RefIs.mono {G G' : Nat → Prop} {w : World} {r : Nat} {vt vb : Value} {s : Cr} (h : RefIs G w r vt vb s) (hG : ∀ b, b < w.heap.size → G b → G' b) : RefIs G' w r vt vb s :=
  ⟨h.head, by
    obtain ⟨cs, ht⟩ := h.texts
    refine ⟨cs, ht.own, fun i t hi => ?_⟩
    obtain ⟨A, c, hc, hr⟩ := ht.each i t hi
    exact ⟨A, c, hc, hr.mono fun b hb hlt => ⟨hG b hlt hb.1, hb.2⟩⟩⟩
theorem chg_drewN (F : Nat → Prop) (w : World) (n : Nat) : Chg F w (w.drewN n) := ⟨rfl, rfl, rfl, Nat.le_refl _, fun _ _ _ => rfl⟩
theorem idx_at {ts : List (List UInt8)} {xs : List UInt8} {k : Nat} (h : ts[k]? = some xs) (hn : xs ∉ ts.take k) : ts.idxOf xs = k := by
  have hlt : k < ts.length := (List.getElem?_eq_some_iff.1 h).1
  have e : ts = ts.take k ++ xs :: ts.drop (k + 1) := by
    have h1 := List.take_append_drop k ts
    have h2 : ts.drop k = xs :: ts.drop (k + 1) := by
      rw [List.drop_eq_getElem_cons hlt]
      congr 1
      exact (List.getElem?_eq_some_iff.1 h).2
    rw [h2] at h1
    exact h1.symm
  rw [e, List.idxOf_append, if_neg hn]
  simp
  omega
theorem own_form {w : World} {B : Nat} {e : TypeId} {size n : Nat} {v : Value} {xs : List Value} (h : w.ownsRow B e size v n xs) : ∃ A c, v = .slice A n c := by
  rcases h.2 with ⟨rfl, rfl⟩ | ⟨g, cap, cur, rfl, _⟩
  · exact ⟨_, _, rfl⟩
  · exact ⟨_, _, rfl⟩
theorem own_cell1 {w : World} {B : Nat} {e : TypeId} {n : Nat} {v : Value} {xs : List Value} (h : w.ownsRow B e 1 v n xs) {k : Nat} {u : Value} (hk : xs[k]? = some u) : ∃ g c, v = .slice (some ⟨g, 0, none⟩) n c ∧ w.cell? ⟨g, k, none⟩ = some u := by
  have hlt : k < xs.length := by
    rcases Nat.lt_or_ge k xs.length with q | q
    · exact q
    · rw [List.getElem?_eq_none q] at hk; cases hk
  rcases h.2 with ⟨_, h0⟩ | ⟨g, cap, cur, rfl, _⟩
  · have := h.1; omega
  · refine ⟨g, cap, rfl, ?_⟩
    have := h.cells (g := g) rfl k u hk
    rwa [add_plain, Nat.zero_add] at this
theorem HasB.drewN {w : World} {A : Option Addr} {n : Nat} {xs : List UInt8} (h : HasB w A n xs) (m : Nat) : HasB (w.drewN m) A n xs := ⟨h.len, h.row.move fun b hb _ => ⟨hb, rfl⟩⟩

theorem chg_setCell {F : Nat → Prop} {w w' : World} (h : Chg F w w') {p : Addr} (hp : F p.block ∨ w.heap.size ≤ p.block) (u : Value) : Chg F w (w'.setCell p u) :=
  ⟨h.os, h.tape, h.output, by simpa [World.setCell] using h.size, fun i hi hn => (Below.heap_setCell w' p u i (by
    rintro rfl
    rcases hp with hp | hp
    · exact hn hp
    · omega)).trans (h.block i hi hn)⟩
theorem refBook_push {G : Nat → Prop} {w3 w4 w5 : World} {r k ct n c4 c5 : Nat} {At A4 A5 : Option Addr} {vb : Value} {ts : List (List UInt8)} {cs : List Value} {xs : List UInt8} {o : Obj}
    (HT3 : TextsIs G w3 (.slice At ts.length ct) ts cs) (HN : ts.length = k) (HD3 : Blk w3 r 32 #[.bool true, .slice At k ct, vb]) (HO4 : OwnB w4 w3.heap.size A4 n c4 xs) (HB4 : Below w3.heap.size w3 w4)
    (HD5 : Blk w5 r 32 #[.bool true, .slice At k ct, vb]) (HO5 : w5.ownsRow 0 33 1 (.slice A5 (k + 1) c5) (k + 1) (cs ++ [.slice A4 n c4])) (HG5 : (w4.alloc o).grownBy w5 (Value.slice At k ct).ownBlock) :
    RefIs (fun b => G b ∨ w3.heap.size ≤ b) (w5.setCell ⟨r, 1, none⟩ (.slice A5 (k + 1) c5)) r (.slice A5 (k + 1) c5) vb (.book (ts ++ [xs])) ∧ Chg (fun i => i = r ∨ some i = (Value.slice At k ct).ownBlock) w3 (w5.setCell ⟨r, 1, none⟩ (.slice A5 (k + 1) c5)) := by
  subst HN
  have hn := HO4.len
  subst hn
  have k45 : Chg (fun i => i = r ∨ some i = (Value.slice At ts.length ct).ownBlock) w4 w5 := (Chg.of_below (below_new w4 o) _).trans ((Chg.of_grown HG5).mono fun _ _ h => .inr h) (fun _ _ h => h)
  have k46 := chg_setCell k45 (p := ⟨r, 1, none⟩) (.inl (.inl rfl)) (.slice A5 (ts.length + 1) c5)
  have k36 := (Chg.of_below HB4 (fun i => i = r ∨ some i = (Value.slice At ts.length ct).ownBlock)).trans k46 (fun _ _ h => h)
  have f3 : ∀ b, okB G w3 b → ¬ (b = r ∨ some b = (Value.slice At ts.length ct).ownBlock) := by
    rintro b ⟨_, c, hc⟩ (rfl | h)
    · exact Blk.ne_ hc HD3 (by decide) rfl
    · exact own_blk_ne HT3.own hc (by decide) h.symm
  have hl : cs.length = ts.length := by have := HT3.own.1; omega
  refine ⟨⟨HD5.set_ 1 _, cs ++ [.slice A4 xs.length c4], ⟨?_, ?_⟩⟩, k36⟩
  · show World.ownsRow _ 0 _ 1 _ (ts ++ [xs]).length _
    rw [List.length_append, List.length_singleton]
    exact own_chg HO5 (chg_setCell (Chg.refl (fun i => i = r) w5) (.inl rfl) _) (fun g hg e => own_blk_ne HO5 HD5 (by decide) (by rw [hg, e]))
  · intro i t ht
    replace ht : (ts ++ [xs])[i]? = some t := ht
    by_cases hi : i < ts.length
    · rw [List.getElem?_append_left hi] at ht
      obtain ⟨A, c, hc, hr⟩ := HT3.each i t ht
      exact ⟨A, c, by rw [List.getElem?_append_left (by omega)]; exact hc, hr.chg k36 fun b _ hb => ⟨⟨.inl hb.1, (hb.chg k36 (f3 b hb)).2⟩, f3 b hb⟩⟩
    · rw [List.getElem?_append_right (by omega)] at ht
      have hi0 : i - ts.length = 0 := by
        rcases Nat.eq_zero_or_pos (i - ts.length) with h | h
        · exact h
        · rw [List.getElem?_eq_none (by simp; omega)] at ht; cases ht
      rw [hi0] at ht
      cases ht
      refine ⟨A4, c4, by rw [List.getElem?_append_right (by omega), show i - cs.length = 0 by omega]; rfl, ?_⟩
      have f4 : ∀ b, okB (fun b => w3.heap.size ≤ b) w4 b → ¬ (b = r ∨ some b = (Value.slice At ts.length ct).ownBlock) := by
        have hp := own_chg HT3.own (Chg.of_below HB4 (fun _ => False)) (fun _ _ h => h)
        rintro b ⟨_, c, hc⟩ (rfl | h)
        · exact Blk.ne_ hc (HD3.step HB4) (by decide) rfl
        · exact own_blk_ne hp hc (by decide) h.symm
      exact HO4.okB.chg k46 fun b _ hb => ⟨⟨.inr hb.1, (hb.chg k46 (f4 b hb)).2⟩, f4 b hb⟩

/-- what a Sum of the reference's book leaves -/
def SumPost (G : Nat → Prop) (r : Nat) (vt vb : Value) (ts : List (List UInt8)) (xs : List UInt8) (w : World) (e : Ending) (w' : World) : Prop := ∃ x vt' B, e = .returned x ∧ w.heap.size ≤ B ∧ w'.ownsRow B 5 1 x 32 (bts (sumB (ts.idxOf xs))) ∧
      RefIs (fun b => G b ∨ (w.heap.size ≤ b ∧ b < B)) w' r vt' vb (.book (if xs ∈ ts then ts else ts ++ [xs])) ∧ Chg (fun i => i = r ∨ some i = vt.ownBlock) w w' ∧ (∀ g, vt'.ownBlock = some g → vt.ownBlock = some g ∨ (w.heap.size ≤ g ∧ g < B))

set_option maxHeartbeats 1000000 in
theorem rSum_book (G : Nat → Prop) (r : Nat) (vt vb : Value) (ts : List (List UInt8)) (A : Option Addr) (c n : Nat) (xs : List UInt8) (w : World) (h : HasB w A n xs) (hr : RefIs G w r vt vb (.book ts)) (hx : n < 100000000000000) (hm : ts.length < 1000000000000) :
    Calls Tryz.prog 13 #[.pointer (some ⟨r, 0, none⟩), .slice A n c] w fun e w' => SumPost G r vt vb ts xs w e w' := by
  have hc0 : w.cell? ⟨r, 0, none⟩ = some (.bool true) := hr.head.cell 0
  have hc1 : w.cell? ⟨r, 1, none⟩ = some vt := hr.head.cell 1
  obtain ⟨cs, ht⟩ := hr.texts
  obtain ⟨At, ct, rfl⟩ := own_form ht.own
  have hm' : Cr.texts (.book ts) = ts := rfl
  rw [hm'] at ht hc1
  clear hm'
  obtain ⟨N, hN⟩ : ∃ N, ts.length = N := ⟨_, rfl⟩
  have H := Lib.hid h
  have HR := Lib.hid hr
  have HT := Lib.hid ht
  rw [hN] at hc1 hm
  have HN := Lib.hid hN
  clear h hr ht hN
  go_enter Tryz.func13, Tryz.ntmps13
  go_wp2_with fail
  go_loopw [5] (fun i wr => ∃ k : Nat, k ≤ N ∧ i = .int .i64 k ∧ Hid (xs ∉ ts.take k) ∧ ∃ q, wr = w.drewN q) (fun i _ => N - (intOf i).toNat)
  case atStart => exact ⟨0, by omega, rfl, by show ¬ _; simp, 0, rfl⟩
  case round =>
    obtain ⟨k, hk, rfl, HE, q, rfl⟩ := hrel
    by_cases hlt : k < N
    · have hd := hd_lt_t hlt
      obtain ⟨t, htk⟩ : ∃ t, ts[k]? = some t := ⟨_, List.getElem?_eq_getElem (by have := HN.out; omega)⟩
      obtain ⟨Ak, ck, hck, hbk⟩ := HT.out.each k t htk
      obtain ⟨g, c', e1, hcell⟩ := own_cell1 HT.out.own hck
      obtain ⟨rfl, -, rfl⟩ := Value.slice.inj e1
      clear e1
      obtain ⟨m, hml⟩ : ∃ m, t.length = m := ⟨_, rfl⟩
      rw [hml] at hcell
      have HBK := Lib.hid (okB.has hbk hml)
      have HTK := Lib.hid htk
      clear hck hbk htk hml
      by_cases heq : t = xs
      · go_upto_region 8 with (go_at_call 10; refine (rEqual_any Ak A ck c m n t xs _ (old w) (old w) (HBK.out.drewN q).row (H.out.drewN q).row HBK.out.len H.out.len).mono ?_; rintro e w' ⟨rfl, q2, rfl⟩; rw [decide_eq_true heq])
        have hcb : ∀ W : World, (convert 33 33 (.slice (some ⟨W.heap.size, 0, none⟩) 4 4)).run Tryz.prog (W.alloc (.cells #[.int .u8 83, .int .u8 85, .int .u8 77, .int .u8 33] 5)) = .ok (.slice (some ⟨W.heap.size, 0, none⟩) 4 4) (W.alloc (.cells #[.int .u8 83, .int .u8 85, .int .u8 77, .int .u8 33] 5 (4, 5))) :=
          fun W => Lib.run_convert_bytes_const W 33 5 #[.int .u8 83, .int .u8 85, .int .u8 77, .int .u8 33] 4 4 Tryz.underlying33 Tryz.underlying5
        obtain ⟨w3, hw3⟩ : ∃ w3, w3 = w.drewN (q + q2) := ⟨_, rfl⟩
        rw [← hw3]
        have hR3 := HR.out.chg (chg_drewN (fun _ => False) w (q + q2)) (fun h => h) (fun _ _ h => h) (fun _ _ h => h)
        rw [← hw3] at hR3
        have HC3 := Lib.hid (show Chg (fun _ => False) w w3 by rw [hw3]; exact chg_drewN _ _ _)
        have HR3 := Lib.hid hR3
        clear hw3 hR3 hcell HBK hc0 hc1
        go_wp2_with (first
          | (with_reducible change wpList _ _ _ ({ dst := some 55, op := _, type := _, pos := _, after := _, guard := _ } :: _) _ _; go_must (refine wpList_zeros (w0 := w3) rfl (.tmp 54) (.const (.int .i64 20)) rfl ⟨w3.heap.size, 0, none⟩ 4 [83, 85, 77, 33] 20 rfl rfl rfl (World.news_of_block (heap_alloc_new w3 _)) (by omega) (by omega) w3.heap.size (below_new w3 _) (by simp) ?_)
             rintro v4 w4 hown4 hb4
             have HO4 := Lib.hid hown4
             have HB4 := Lib.hid hb4
             clear hown4 hb4)
          | (go_at_call 29; refine (rbig_any k _ (by omega)).mono ?_; rintro e w5 ⟨A5, c5, rfl, h5, hb5⟩
             have HO5 := Lib.hid (HO4.out.kept (grown_of_below hb5 none) (by cases v4.ownBlock <;> simp))
             have HB5 := Lib.hid (below_step HB4.out HB4.out.size hb5)
             have HX5 := Lib.hid h5
             clear hb5 h5)
          | (with_reducible change wpList _ _ _ ({ dst := some 58, op := _, type := _, pos := _, after := _, guard := _ } :: _) _ _; go_must (refine wpList_cat rfl (.tmp 55) (.tmp 57) 33 rfl w3.heap.size Tryz.underlying33 Tryz.info5 HO5.out rfl HB5.out c5 rfl HX5.out.has (by omega) HB5.out.size ?_)
             rintro v6 w6 hown6 hb6 _ _))
        go_ret
        have hmem : xs ∈ ts := by rw [← heq]; exact List.mem_of_getElem? HTK.out
        have hidx : ts.idxOf xs = k := idx_at (by rw [← heq]; exact HTK.out) HE.out
        unfold SumPost
        rw [if_pos hmem, hidx]
        have hb36 : Below w3.heap.size w3 w6 := hb6
        refine ⟨_, _, w3.heap.size, rfl, HC3.out.size, ?_, (HR3.out.chg (Chg.of_below hb36 (fun _ => False)) (fun h => h) (fun _ _ h => h) (fun _ _ h => h)).mono (fun _ _ h => .inl h), ((HC3.out.trans (Chg.of_below hb36 (fun _ => False)) (fun _ _ h => h)).mono fun _ _ h => h.elim), fun g hg => .inl hg⟩
        have h9 : w6.ownsRow w3.heap.size 5 1 v6 32 (bts (sumB k)) := by simpa [sumB] using hown6
        exact h9
      · go_wp2_with (go_at_call 10; refine (rEqual_any Ak A ck c m n t xs _ (old w) (old w) (HBK.out.drewN q).row (H.out.drewN q).row HBK.out.len H.out.len).mono ?_; rintro e w' ⟨rfl, q2, rfl⟩; rw [decide_eq_false heq])
        go_roundw
        case measure => simp [intOf]; omega
        case rel =>
          refine ⟨k + 1, by omega, by go_num, ?_, _, rfl⟩
          show ¬ _
          rw [take_snoc HTK.out, List.mem_append]
          rintro (hi | hi)
          · exact HE.out hi
          · simp at hi
            exact heq hi.symm
    · have hd := hd_lt_f hlt
      obtain rfl : k = N := by omega
      go_upto_region 7 with (fail)
      obtain ⟨w3, hw3⟩ : ∃ w3, w3 = w.drewN q := ⟨_, rfl⟩
      rw [← hw3]
      have hw3' := hw3
      have hR3 := HR.out.chg (chg_drewN (fun _ => False) w q) (fun h => h) (fun _ _ h => h) (fun _ _ h => h)
      have hH3 := H.out.drewN q
      rw [← hw3] at hR3 hH3
      have HC3 := Lib.hid (show Chg (fun _ => False) w w3 by rw [hw3]; exact chg_drewN _ _ _)
      replace hc1 : w3.cell? ⟨r, 1, none⟩ = some (.slice At k ct) := by rw [hw3]; exact hc1
      have hf1 := hR3.head.frozen 1
      have hT3 : TextsIs G w3 (.slice At ts.length ct) ts cs := by
        have h9 := HT.out.chg (chg_drewN (fun _ => False) w q) (fun _ _ h => h) (fun _ _ h => h)
        rw [← hw3'] at h9
        exact h9
      have HT3 := Lib.hid hT3
      have HO3 : Hid (w3.ownsRow 0 33 1 (.slice At k ct) k cs) := by
        have h9 := hT3.own
        rw [HN.out] at h9
        exact h9
      clear hT3 hw3'
      have HD3 : Hid (Blk w3 r 32 #[.bool true, .slice At k ct, vb]) := by
        have h9 := hR3.head
        rw [show (Cr.book ts).texts.length = k from HN.out] at h9
        exact h9
      have HR3 := Lib.hid hR3
      have HH3 := Lib.hid hH3
      have hrl3 : r < w3.heap.size := HD3.out.lt
      clear hw3 hR3 hH3 hc0
      go_region_law (first
        | (refine step_cat (w0 := w3) (by rfl) (.tmp 46) (.tmp 47) 33 (by rfl) w3.heap.size Tryz.underlying33 Tryz.info5 ((own_emptyB w3 _ (Nat.le_refl _)).drew) (by rfl) ((below_new w3 _).drew) c (by rfl) (HH3.out.kept ((below_new w3 _).drew)) (by omega) (by simp) ?_
           intro v4 w4 hown4 hb4 _ _
           rw [Nat.zero_add, List.nil_append] at hown4
           obtain ⟨A4, c4, rfl, h4⟩ := ownB_of hown4
           clear hown4
           have hc4 : w4.cell? ⟨r, 1, none⟩ = some (.slice At k ct) := (HD3.out.step hb4).cell 1
           have hf4 : w4.frozen? ⟨r, 1, none⟩ = false := (HD3.out.step hb4).frozen 1
           have hrl4 : r < w4.heap.size := (HD3.out.step hb4).lt
           have HO4 := Lib.hid h4
           have HB4 := Lib.hid hb4
           have HP4 := Lib.hid (own_chg HO3.out (Chg.of_below hb4 (fun _ => False)) (fun _ _ h => h))
           clear h4 hb4)
        | (refine step_push (w0 := w4) (by rfl) (.tmp 45) (.tmp 49) 29 (by rfl) 0 33 (.slice none 0 0) 24 Tryz.underlying29 (by kernel_rfl) rfl (.slice At k ct) k cs (.slice A4 n c4) w4.heap.size (by rfl) (by rfl) (by rfl) (by exact Blk.new w4 _ _) (HP4.out.alloc _) ((Below.refl 0 w4).alloc (Nat.zero_le _) _) (by simp only [maxLen]; omega) (by omega) (by omega) ?_
           intro v5 w5 hown5 _ hg5 hat5
           have hr4 : some r ≠ (Value.slice At k ct).ownBlock := (own_blk_ne HP4.out (HD3.out.step HB4.out) (by decide)).symm
           have hD5 := (Blk.grown (w := w4.alloc _) ((HD3.out.step HB4.out).alloc _) hg5 hr4)
           have hc5 : w5.cell? ⟨r, 1, none⟩ = some (.slice At k ct) := hD5.cell 1
           have hf5 : w5.frozen? ⟨r, 1, none⟩ = false := hD5.frozen 1
           have hrl5 : r < w5.heap.size := hD5.lt
           obtain ⟨A5, c5, rfl⟩ := own_form hown5
           have HD5 := Lib.hid hD5
           have HO5 := Lib.hid hown5
           have HG5 := Lib.hid hg5
           have HAT5 := Lib.hid hat5
           clear hD5 hown5 hg5 hat5 hr4)
        | fail)
      all_goals (
        obtain ⟨hR6, hC6⟩ := refBook_push HT3.out HN.out HD3.out HO4.out HB4.out HD5.out HO5.out HG5.out
        have hrest : ∀ g', (Value.slice A5 (k + 1) c5).ownBlock = some g' → (Value.slice At k ct).ownBlock = some g' ∨ (w.heap.size ≤ g' ∧ g' < (w5.setCell ⟨r, 1, none⟩ (Value.slice A5 (k + 1) c5)).heap.size) := by
          intro g' hg'
          have h8 := (HO5.out.lt g' hg').2
          rcases HAT5.out with h9 | h9
          · exact .inl (h9.symm.trans hg')
          · right
            rw [h9] at hg'
            have := HC3.out.size
            have := HB4.out.size
            simp at hg'
            refine ⟨by omega, ?_⟩
            show _ < (World.setCell _ _ _).heap.size
            simpa [World.setCell] using h8
        generalize hw6 : w5.setCell ⟨r, 1, none⟩ (Value.slice A5 (k + 1) c5) = w6 at *
        have HR6 := Lib.hid hR6
        have HC6 := Lib.hid ((HC3.out.mono (G := fun i => i = r ∨ some i = (Value.slice At k ct).ownBlock) (fun _ _ h => h.elim)).trans hC6 (fun _ _ h => h))
        clear hw6 hR6 hC6 hc1 hf1 hc4 hf4 hc5 hf5 hrl3 hrl4 hrl5
        have hcb : ∀ W : World, (convert 33 33 (.slice (some ⟨W.heap.size, 0, none⟩) 4 4)).run Tryz.prog (W.alloc (.cells #[.int .u8 83, .int .u8 85, .int .u8 77, .int .u8 33] 5)) = .ok (.slice (some ⟨W.heap.size, 0, none⟩) 4 4) (W.alloc (.cells #[.int .u8 83, .int .u8 85, .int .u8 77, .int .u8 33] 5 (4, 5))) :=
          fun W => Lib.run_convert_bytes_const W 33 5 #[.int .u8 83, .int .u8 85, .int .u8 77, .int .u8 33] 4 4 Tryz.underlying33 Tryz.underlying5
        go_wp2_with (first
          | (with_reducible change wpList _ _ _ ({ dst := some 55, op := _, type := _, pos := _, after := _, guard := _ } :: _) _ _; go_must (refine wpList_zeros (w0 := w6) rfl (.tmp 54) (.const (.int .i64 20)) rfl ⟨w6.heap.size, 0, none⟩ 4 [83, 85, 77, 33] 20 rfl rfl rfl (World.news_of_block (heap_alloc_new w6 _)) (by omega) (by omega) w6.heap.size (below_new w6 _) (by simp) ?_)
             rintro v7 w7 hown7 hb7
             have HO7 := Lib.hid hown7
             have HB7 := Lib.hid hb7
             clear hown7 hb7)
          | (go_at_call 29; refine (rbig_any k _ (by omega)).mono ?_; rintro e w8 ⟨A8, c8, rfl, h8, hb8⟩
             have HO8 := Lib.hid (HO7.out.kept (grown_of_below hb8 none) (by cases v7.ownBlock <;> simp))
             have HB8 := Lib.hid (below_step HB7.out HB7.out.size hb8)
             have HX8 := Lib.hid h8
             clear hb8 h8)
          | (with_reducible change wpList _ _ _ ({ dst := some 58, op := _, type := _, pos := _, after := _, guard := _ } :: _) _ _; go_must (refine wpList_cat rfl (.tmp 55) (.tmp 57) 33 rfl w6.heap.size Tryz.underlying33 Tryz.info5 HO8.out rfl HB8.out c8 rfl HX8.out.has (by omega) HB8.out.size ?_)
             rintro v9 w9 hown9 hb9 _ _))
        go_ret
        have hmem : xs ∉ ts := by
          have h9 := HE.out
          rwa [List.take_of_length_le (by have := HN.out; omega)] at h9
        have hidx : ts.idxOf xs = k := by rw [List.idxOf_eq_length hmem]; exact HN.out
        unfold SumPost
        rw [if_neg hmem, hidx]
        refine ⟨_, _, w6.heap.size, rfl, HC6.out.size, ?_, (HR6.out.mono (fun b hb h => ?_)).chg (Chg.of_below hb9 (fun _ => False)) (fun h => h) (fun _ _ h => h) (fun _ _ h => h), ?_, ?_⟩
        · have h9 : w9.ownsRow w6.heap.size 5 1 v9 32 (bts (sumB k)) := by simpa [sumB] using hown9
          exact h9
        · rcases h with h | h
          · exact .inl h
          · exact .inr ⟨Nat.le_trans HC3.out.size h, hb⟩
        · have h9 := HC6.out.trans (Chg.of_below hb9 (fun _ => False)) (fun _ _ h => h.elim)
          rw [← HN.out] at h9
          exact h9
        · have h9 := hrest
          rw [← HN.out] at h9
          rw [← HN.out]
          exact h9)
end Go.Proofs.YtkenmpggblefiaaGreatDoor
