/- The walks of the program's reading of chests. -/
import Derived.Test.YtkenmpggblefiaaGreatDoorCD
namespace Go.Proofs.YtkenmpggblefiaaGreatDoor
open Go.RowKit
attribute [local go_sem ↓] Go.wp_at_zero Go.wp_at_succ

def tkCO (bd : List UInt8) (st : Option Nat) : Option (Chest × Nat) := st.bind (tkChest bd)
theorem tkCO_eq (bd : List UInt8) (st : Option Nat) : tkCO bd st = (rows64 bd (tkAt bd (tkAt bd st))).map fun s => (⟨tkRow bd st, tkRow bd (tkAt bd st), s.1⟩, s.2) := by
  rcases st with _ | q
  · rfl
  · show tkChest bd q = _
    unfold tkChest
    rcases tkAt bd (tkAt bd (some q)) with _ | e
    · rfl
    · show (if e + 4 > bd.length then none else if gB (bd.drop e) 4 > 64 then none else _) = _
      unfold rows64
      by_cases h1 : e + 4 > bd.length
      · have e1 : num bd 64 (some e) = (0, none) := if_pos (.inl h1)
        rw [e1, if_pos h1]
        rfl
      · by_cases h2 : gB (bd.drop e) 4 > 64
        · have e1 : num bd 64 (some e) = (0, none) := if_pos (.inr h2)
          rw [e1, if_neg h1, if_pos h2]
          rfl
        · have e1 : num bd 64 (some e) = (gB (bd.drop e) 4, some (e + 4)) := if_neg (by
            rintro (h | h)
            · exact h1 h
            · exact h2 h)
          rw [e1, if_neg h1, if_neg h2]
          rfl
theorem OwnB.chgT {F : Nat → Prop} {w w' : World} {B : Nat} {A : Option Addr} {n c : Nat} {ys : List UInt8} (h : OwnB w B A n c ys) (k : Chg F w w') (hF : ∀ i, F i → ∃ t cs, t ≠ 5 ∧ Blk w i t cs) : OwnB w' B A n c ys := by
  have ho := own_chg h.own k (fun g hg hf => by
    obtain ⟨t, cs, ht, hb⟩ := hF g hf
    exact own_blk_ne h.own hb (fun e => ht e.symm) hg)
  obtain ⟨A', c', e, h'⟩ := ownB_of ho
  cases e
  exact h'
def RChestPost (ok : Nat → Prop) (p : Nat) (bd : List UInt8) (st : Option Nat) (w : World) (e : Ending) (w' : World) : Prop :=
  ∃ v1 v2 x, e = .returned (.agg #[.string (bs x.tag), v1, v2]) ∧ kChest.K w' (okT w.heap.size [33, 5] w') x [.string (bs x.tag), v1, v2] ∧
    RdSt ok w' p bd ((tkCO bd st).map Prod.snd) ∧ w.grownBy w' (some p) ∧ ∀ s, tkCO bd st = some s → s.1 = x

set_option maxHeartbeats 1000000 in
theorem rchest_any (ok : Nat → Prop) (p : Nat) (bd : List UInt8) (st : Option Nat) (w : World) (h : RdSt ok w p bd st) (hok : ¬ ok p) (hok2 : ∀ b, ok b → b < w.heap.size) (hbd : bd.length < 1000000000) :
    Calls Tryz.prog 26 #[.pointer (some ⟨p, 0, none⟩)] w fun e w' => RChestPost ok p bd st w e w' := by
  have hmf : ∀ (fn : Fn) (first cap : Array Value) (w : World), (Instr.makeFunc fn first cap).run Tryz.prog w = .ok (.func fn first cap) w := fun _ _ _ _ => rfl
  have hpw : p < w.heap.size := h.lt
  go_enter Tryz.func26, Tryz.ntmps26
  go_wp2_with fail
  obtain ⟨w0, hw0⟩ : ∃ w0, w0 = w.alloc (.cells #[.string ⟨#[]⟩, .slice none 0 0, .slice none 0 0] 49) := ⟨_, rfl⟩
  have hb0 : Below w.heap.size w w0 := by rw [hw0]; exact below_new w _
  have hr0 : Blk w0 w.heap.size 49 #[.string ⟨#[]⟩, .slice none 0 0, .slice none 0 0] := by rw [hw0]; exact Blk.new w _ _
  have hs0 : w0.heap.size = w.heap.size + 1 := by rw [hw0]; simp
  rw [← hw0]
  have hG0 : w.grownBy w0 (some p) := grown_of_below hb0 _
  have HRD0 := Lib.hid (h.below hb0)
  have HR0 := Lib.hid hr0
  have HG0 := Lib.hid hG0
  have HS0 := Lib.hid hs0
  clear hw0 hb0 hr0 hG0 hs0 h
  refine (rrow2_any ok p bd st w0 HRD0.out hok hbd).mono ?_
  intro e w1 h2
  obtain ⟨v1, rfl, ho1, hr1, hg1⟩ := h2
  obtain ⟨t1, ht1⟩ : ∃ t1, tkRow bd st = t1 := ⟨_, rfl⟩
  obtain ⟨n1, hn1⟩ : ∃ n1, t1.length = n1 := ⟨_, rfl⟩
  obtain ⟨o1, hoo1⟩ : ∃ o1, tkAt bd st = o1 := ⟨_, rfl⟩
  have hn1b : n1 ≤ bd.length := by rw [← hn1, ← ht1]; exact tkRow_le _ _
  rw [ht1, hn1] at ho1
  rw [hoo1] at hr1
  obtain ⟨A1, c1, rfl, hO1⟩ := ownB_of ho1
  have hcv : (convert 33 9 (.slice A1 n1 c1)).run Tryz.prog w1 = .ok (.string (bs t1)) w1 :=
    run_bytes_string hO1.old hn1 Tryz.underlying33 Tryz.underlying5 Tryz.underlying9
  have hr01 : Blk w1 w.heap.size 49 #[.string ⟨#[]⟩, .slice none 0 0, .slice none 0 0] := HR0.out.grown hg1 (by
    intro e
    cases e
    omega)
  obtain ⟨W2, hW2⟩ : ∃ W2, W2 = w1.alloc (.cells #[.string (bs t1), .slice none 0 0, .slice none 0 0] 49) := ⟨_, rfl⟩
  have hb2 : Below w1.heap.size w1 W2 := by rw [hW2]; exact below_new w1 _
  have hx2 : Blk W2 w1.heap.size 49 #[.string (bs t1), .slice none 0 0, .slice none 0 0] := by rw [hW2]; exact Blk.new w1 _ _
  have hs1 : w.heap.size < w1.heap.size := by have := hg1.size; have := HS0.out; omega
  have HRD2 := Lib.hid (hr1.below hb2)
  have HG2 := Lib.hid (grown_below (grown_trans HG0.out hg1) hb2)
  have HX2 := Lib.hid hx2
  have HR2 := Lib.hid (hr01.step hb2)
  have HT1 := Lib.hid ht1
  have HN1 := Lib.hid hn1
  have HOO1 := Lib.hid hoo1
  clear ho1 hr1 hg1 ht1 hn1 hoo1 hO1 hr01 hb2 hx2
  go_wp2_with fail
  rw [← hW2]
  clear hW2 hcv
  refine (rrow2_any ok p bd o1 W2 HRD2.out hok hbd).mono ?_
  intro e w3 h2
  obtain ⟨v2, rfl, ho2, hr3, hg3⟩ := h2
  obtain ⟨t2, ht2⟩ : ∃ t2, tkRow bd o1 = t2 := ⟨_, rfl⟩
  obtain ⟨n2, hn2⟩ : ∃ n2, t2.length = n2 := ⟨_, rfl⟩
  obtain ⟨o2, hoo2⟩ : ∃ o2, tkAt bd o1 = o2 := ⟨_, rfl⟩
  rw [ht2, hn2] at ho2
  rw [hoo2] at hr3
  obtain ⟨A2, c2, rfl, hO2⟩ := ownB_of ho2
  have hx3 := HX2.out.grown hg3 (by intro e; cases e; omega)
  have hr03 := HR2.out.grown hg3 (by intro e; cases e; omega)
  have hf3 := hx3.frozen 1
  have hl3 := hx3.lt
  have hk3 : w3.cell? ⟨w1.heap.size, 1, none⟩ = some (.slice none 0 0) := hx3.cell 1
  have hset : Chg (fun i => i = w1.heap.size) w3 (w3.setCell ⟨w1.heap.size, 1, none⟩ (.slice A2 n2 c2)) := chg_setCell (Chg.refl (fun i => i = w1.heap.size) w3) (.inl rfl) _
  have hG3 : w.grownBy w3 (some p) := grown_trans HG2.out hg3
  obtain ⟨w4, hw4⟩ : ∃ w4, w4 = w3.setCell ⟨w1.heap.size, 1, none⟩ (.slice A2 n2 c2) := ⟨_, rfl⟩
  rw [← hw4] at hset
  have hx4 : Blk w4 w1.heap.size 49 #[.string (bs t1), .slice A2 n2 c2, .slice none 0 0] := by rw [hw4]; exact hx3.set_ 1 _
  have HO4 := Lib.hid (hO2.chgT hset (fun i hi => ⟨_, _, by decide, hi ▸ hx3⟩))
  have HX4 := Lib.hid hx4
  have HR4 := Lib.hid (hr03.chg hset (by omega))
  have HRD4 := Lib.hid (hr3.chg hset (by omega) (fun b hb e => by have := hok2 b hb; omega))
  have HG4 : Hid (w.grownBy w4 (some p)) := grown_new hG3 (row := some w1.heap.size) ⟨hset.os, hset.tape, hset.output, hset.size, fun i hi hn => hset.block i hi (fun e => hn (by rw [e]))⟩ (fun b hb => by cases hb; omega)
  have HT2 := Lib.hid ht2
  have HN2 := Lib.hid hn2
  have HOO2 := Lib.hid hoo2
  have hW2s : w.heap.size ≤ W2.heap.size := HG2.out.size
  clear ho2 hr3 hg3 hx3 hr03 hG3 hx4 hset hO2 hoo2 hn2 ht2
  go_wp2_with fail
  rw [← hw4]
  clear hw4 hk3 hf3 hl3
  refine (someRow_any ok p bd o2 w4 HRD4.out hok (fun b hb => by have := hok2 b hb; have := HG4.out.size; omega) hbd).mono ?_
  intro e w5 h5
  obtain ⟨v3, rfl, hg5, hm5⟩ := h5
  have hx5 := HX4.out.grown hg5 (by intro e; cases e; omega)
  have hr05 := HR4.out.grown hg5 (by intro e; cases e; omega)
  have HG5 := Lib.hid (grown_trans HG4.out hg5)
  have HO5 := Lib.hid (HO4.out.chgT (Chg.of_grown hg5) (fun i hi => by
    cases hi
    obtain ⟨v, hv⟩ := HRD4.out.bad
    exact ⟨_, _, by decide, hv⟩))
  have hfin : ∃ A3 n3 c3 ls, v3 = .slice A3 n3 c3 ∧ GrowV (Kn.sl Kn.byte) w5 w4.heap.size 33 [5] v3 ls ∧ RdSt ok w5 p bd ((tkCO bd st).map Prod.snd) ∧ ∀ s, tkCO bd st = some s → s.1 = ⟨t1, t2, ls⟩ := by
    have e9 := tkCO_eq bd st
    rw [HT1.out, HOO1.out, HT2.out, HOO2.out] at e9
    rw [e9]
    rcases hrr : rows64 bd o2 with _ | s
    · rw [hrr] at hm5
      obtain ⟨rfl, h6⟩ := hm5
      exact ⟨_, _, _, [], rfl, GrowV.nil .., h6, by simp⟩
    · rw [hrr] at hm5
      obtain ⟨h6, h7⟩ := hm5
      obtain ⟨A3, c3, e3⟩ := h6.form
      refine ⟨A3, _, c3, s.1, e3, h6, h7, ?_⟩
      intro s' hs
      simp at hs
      rw [← hs]
  obtain ⟨A3, n3, c3, ls, rfl, hg6, hrd6, hcon⟩ := hfin
  have hk5 : w5.cell? ⟨w1.heap.size, 2, none⟩ = some (.slice none 0 0) := hx5.cell 2
  have hf5 := hx5.frozen 2
  have hl5 := hx5.lt
  have hset5 : Chg (fun i => i = w1.heap.size) w5 (w5.setCell ⟨w1.heap.size, 2, none⟩ (.slice A3 n3 c3)) := chg_setCell (Chg.refl (fun i => i = w1.heap.size) w5) (.inl rfl) _
  obtain ⟨w6, hw6⟩ : ∃ w6, w6 = w5.setCell ⟨w1.heap.size, 2, none⟩ (.slice A3 n3 c3) := ⟨_, rfl⟩
  rw [← hw6] at hset5
  have hx6 : Blk w6 w1.heap.size 49 #[.string (bs t1), .slice A2 n2 c2, .slice A3 n3 c3] := by rw [hw6]; exact hx5.set_ 2 _
  have hr06 := hr05.chg hset5 (by omega)
  have HGV6 := Lib.hid (hg6.chgT hset5 (fun i hi _ => ⟨_, _, by decide, hi ▸ hx5⟩))
  have HO6 := Lib.hid (HO5.out.chgT hset5 (fun i hi => ⟨_, _, by decide, hi ▸ hx5⟩))
  have HRD6 := Lib.hid (hrd6.chg hset5 (by omega) (fun b hb e => by have := hok2 b hb; omega))
  have HG6 : Hid (w.grownBy w6 (some p)) := grown_new HG5.out (row := some w1.heap.size) ⟨hset5.os, hset5.tape, hset5.output, hset5.size, fun i hi hn => hset5.block i hi (fun e => hn (by rw [e]))⟩ (fun b hb => by cases hb; omega)
  go_upto_region 4 with fail
  rw [← hw6]
  clear hw6
  have j0 : w6.cell? ⟨w1.heap.size, 0, none⟩ = some (.string (bs t1)) := hx6.cell 0
  have j1 : w6.cell? ⟨w1.heap.size, 1, none⟩ = some (.slice A2 n2 c2) := hx6.cell 1
  have j2 : w6.cell? ⟨w1.heap.size, 2, none⟩ = some (.slice A3 n3 c3) := hx6.cell 2
  have k0 : w6.cell? ⟨w.heap.size, 0, none⟩ = some (.string ⟨#[]⟩) := hr06.cell 0
  have k1 : w6.cell? ⟨w.heap.size, 1, none⟩ = some (.slice none 0 0) := hr06.cell 1
  have k2 : w6.cell? ⟨w.heap.size, 2, none⟩ = some (.slice none 0 0) := hr06.cell 2
  have f0 := hr06.frozen 0
  have f1 := hr06.frozen 1
  have f2 := hr06.frozen 2
  have l6 := hr06.lt
  have HR6 := Lib.hid hr06
  have HCON := Lib.hid hcon
  have hsz4 : w.heap.size ≤ w4.heap.size := HG4.out.size
  clear hm5 hg5 hx5 hr05 hg6 hrd6 hcon hset5 hx6 hr06
  go_wp2_with fail
  obtain ⟨w7, hw7⟩ : ∃ w7, w7 = ((w6.setCell ⟨w.heap.size, 0, none⟩ (.string (bs t1))).setCell ⟨w.heap.size, 1, none⟩ (.slice A2 n2 c2)).setCell ⟨w.heap.size, 2, none⟩ (.slice A3 n3 c3) := ⟨_, rfl⟩
  rw [← hw7]
  have hset7 : Chg (fun i => i = w.heap.size) w6 w7 := by
    rw [hw7]
    exact chg_setCell (chg_setCell (chg_setCell (Chg.refl (fun i => i = w.heap.size) w6) (.inl rfl) _) (.inl rfl) _) (.inl rfl) _
  have hx7 : Blk w7 w.heap.size 49 #[.string (bs t1), .slice A2 n2 c2, .slice A3 n3 c3] := by
    rw [hw7]
    exact ((HR6.out.set_ 0 _).set_ 1 _).set_ 2 _
  have m0 : w7.cell? ⟨w.heap.size, 0, none⟩ = some (.string (bs t1)) := hx7.cell 0
  have m1 : w7.cell? ⟨w.heap.size, 1, none⟩ = some (.slice A2 n2 c2) := hx7.cell 1
  have m2 : w7.cell? ⟨w.heap.size, 2, none⟩ = some (.slice A3 n3 c3) := hx7.cell 2
  clear hw7
  refine bodyPost_ret (v := .agg #[.string (bs t1), .slice A2 n2 c2, .slice A3 n3 c3]) (by simp [results, Tryz.results26, go_sem, m0, m1, m2]) rfl ?_
  refine ⟨_, _, ⟨t1, t2, ls⟩, rfl, ⟨_, _, rfl, ?_, ?_, ?_⟩, HRD6.out.chg hset7 (by omega) (fun b hb e => by have := hok2 b hb; omega), ?_, HCON.out⟩
  · show t1.length ≤ maxLen
    rw [HN1.out]
    simp only [maxLen]
    omega
  · exact (HO6.out.chgT hset7 (fun i hi => ⟨_, _, by decide, hi ▸ HR6.out⟩)).slT (by simp) hW2s
  · exact ((HGV6.out.chgT hset7 (fun i hi _ => ⟨_, _, by decide, hi ▸ HR6.out⟩)).slV (by decide)).mono fun b hb _ => hb.base hsz4
  · exact grown_new HG6.out (row := some w.heap.size) ⟨hset7.os, hset7.tape, hset7.output, hset7.size, fun i hi hn => hset7.block i hi (fun e => hn (by rw [e]))⟩ (fun b hb => by cases hb; omega)
end Go.Proofs.YtkenmpggblefiaaGreatDoor
