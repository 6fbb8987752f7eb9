/- The walk of the law ChestBytes. -/
import Derived.Test.YtkenmpggblefiaaGreatDoorCI
namespace Go.Proofs.YtkenmpggblefiaaGreatDoor
open Go.RowKit
attribute [local go_sem ↓] Go.wp_at_zero Go.wp_at_succ

/-- chests such as memory bears -/
def Fits (l : List Chest) : Prop := ∀ x ∈ l, x.tag.length ≤ 140737488355328 ∧ x.text.length ≤ 140737488355328 ∧ ∀ t ∈ x.layers, t.length ≤ 140737488355328
theorem crOf_many (ideal : Bool) : (crOf ideal).many = 0 := by cases ideal <;> rfl
theorem crOf_ideal (ideal : Bool) : (crOf ideal).ideal = ideal := by cases ideal <;> rfl
theorem crOf_texts (ideal : Bool) : (crOf ideal).texts = [] := by cases ideal <;> rfl
theorem foot_next {s : Cr} {xs : List UInt8} {b i : Nat} (h : (s.next xs).foot b i) : s.foot b i := by
  rcases s with _ | ts
  · exact h
  · exact h
/-- a crypt of the reference's, as it is made -/
theorem ref_new (ideal : Bool) (w : World) : RefAt (fun i => i = w.heap.size) (w.alloc (.cells #[.bool ideal, .slice none 0 0, .slice none 0 0] 32)) w.heap.size (.slice none 0 0) (crOf ideal) :=
  ⟨.slice none 0 0, ⟨by rw [crOf_ideal]; exact Blk.new w _ _, [], by rw [crOf_texts]; exact World.ownsRow_nil _ _ _ _, by rw [crOf_texts]; intro i t h; simp at h⟩, rfl, by simp [Value.ownBlock]⟩

set_option maxHeartbeats 2000000 in
theorem chestBytes_any (ideal : Bool) (A : Option Addr) (c n : Nat) (l : List Chest) (w : World) (h : RowV kChest w (old w) A l) (hn : l.length = n) (hB : Fits l) :
    Calls Tryz.prog 3 #[.bool ideal, .slice A n c] w fun e w' => e = .returned (.bool true) ∧ Below w.heap.size w w' := by
  have H := Lib.hid h
  have HN := Lib.hid hn
  have HBD := Lib.hid hB
  clear h hn hB
  go_enter Tryz.func3, Tryz.ntmps3
  go_wp2_with fail
  refine (awake_any w).mono ?_
  rintro e w1 ⟨rfl, hb1⟩
  have HB1 := Lib.hid hb1
  clear hb1
  go_wp2_with fail
  refine (Small_any A c n l 4000 w1 (H.out.old_ HB1.out |>.mono fun i hi hlt => hlt) HN.out (by omega) HBD.out).mono ?_
  rintro e w2 ⟨rfl, q2, rfl⟩
  obtain ⟨w2, hw2⟩ : ∃ w2, w2 = w1.drewN q2 := ⟨_, rfl⟩
  rw [← hw2]
  have HB2 : Hid (Below w.heap.size w w2) := by rw [hw2]; exact below_drewN HB1.out q2
  clear hw2
  by_cases hsm : tot l ≤ 4000
  · rw [decide_eq_true hsm]
    have HT := Lib.hid hsm
    clear hsm
    go_wp2_with fail
    refine (of_any ideal w2).mono ?_
    intro e w3 h3
    obtain ⟨v, b, rfl, hv3, hb3, hbb⟩ := h3
    have HV3 := Lib.hid hv3
    have HB3 := Lib.hid (below_step HB2.out HB2.out.size hb3)
    have hbw : w.heap.size ≤ b := Nat.le_trans HB2.out.size hbb
    clear hv3 hb3
    go_wp2_with fail
    obtain ⟨w4, hw4⟩ : ∃ w4, w4 = w3.alloc (.cells #[.bool ideal, .slice none 0 0, .slice none 0 0] 32) := ⟨_, rfl⟩
    rw [← hw4]
    have hr4 : RefAt (fun i => i = w3.heap.size) w4 w3.heap.size (.slice none 0 0) (crOf ideal) := by rw [hw4]; exact ref_new ideal w3
    have hb4 : Below w3.heap.size w3 w4 := by rw [hw4]; exact below_new w3 _
    have hs4 : w3.heap.size < w4.heap.size := by rw [hw4]; simp
    have hrw : w.heap.size ≤ w3.heap.size := HB3.out.size
    have HR4 := Lib.hid hr4
    have HB4 := Lib.hid (below_step HB3.out HB3.out.size hb4)
    have HV4 := Lib.hid (HV3.out.below hb4)
    have hs := crOf_many ideal
    clear hw4 hr4 hb4
    generalize crOf ideal = s at *
    have hfoot : ∀ i, s.foot b i → i = b := fun i hi => foot_eq hi
    refine (Bytes_any v b s (by omega) A c n l w4 (H.out.old_ HB4.out |>.mono fun i hi hlt => hlt) HN.out (by have := HT.out; omega) HV4.out).mono ?_
    intro e w5 h5
    unfold BytesPost at h5
    by_cases hbig : bigL l = true
    · rw [if_pos hbig] at h5
      obtain ⟨rfl, hb5⟩ := h5
      have HB5 := Lib.hid (below_step HB4.out HB4.out.size hb5)
      have HR5 := Lib.hid (HR4.out.below hb5)
      have hs5 : w3.heap.size < w5.heap.size := by have := hb5.size; omega
      clear hb5
      go_wp2_with fail
      refine (rBytes_any _ w3.heap.size (.slice none 0 0) s A c n l w5 (H.out.old_ HB5.out |>.mono fun i hi hlt => hlt) HN.out (by have := HT.out; omega) HR5.out (by rintro i rfl; exact hs5) (by omega)).mono ?_
      intro e w6 h6
      unfold RBytesPost at h6
      rw [if_pos hbig] at h6
      obtain ⟨rfl, q6, rfl⟩ := h6
      have HB6 := Lib.hid (below_drewN HB5.out q6)
      go_wp2_with (first | (go_at_call 10; refine (rEqual_any none none 0 0 0 0 [] [] _ (old w) (old w) RowV.nil RowV.nil rfl rfl).mono ?_; rintro e w7 ⟨rfl, q7, rfl⟩; rw [decide_eq_true (rfl : ([] : List UInt8) = [])]))
      go_ret
      exact ⟨rfl, by rw [← World.drewN_drewN]; exact below_drewN HB6.out q7⟩
    · rw [if_neg hbig] at h5
      obtain ⟨x, rfl, hx5, hv5, hc5⟩ := h5
      obtain ⟨ws, hws⟩ : ∃ ws, wrOf s l = ws := ⟨_, rfl⟩
      obtain ⟨m, hm⟩ : ∃ m, ws.length = m := ⟨_, rfl⟩
      have hmb : m < 1000000 := by
        have := wrOf_le s l
        rw [hws, hm] at this
        have := HT.out
        omega
      rw [hws, hm] at hx5
      obtain ⟨A5, c5, rfl, hO5⟩ := ownB_of hx5
      have hrb := read_back s hbig (by have := HT.out; omega)
      rw [hws] at hrb
      have hnm := cr_next_many s (bodyOf l)
      have HO5 := Lib.hid hO5
      have HV5 := Lib.hid hv5
      have HR5 := Lib.hid (HR4.out.chg hc5 (fun i _ hi h => by have := HV3.out.foot_lt i h; have : i = w3.heap.size := hi; omega))
      have hs5 : w4.heap.size ≤ w5.heap.size := hc5.size
      have HB5 : Hid (Below w.heap.size w w5) := ((Chg.of_below HB4.out (fun i => i = b)).trans hc5 (fun i _ h => hfoot i h)).below (Nat.le_refl _) (fun i hi e => by omega)
      have HRB := Lib.hid hrb
      have HWS := Lib.hid hws
      have HM := Lib.hid hm
      have HBIG := Lib.hid hbig
      clear hx5 hO5 hv5 hc5 hrb hws hm hbig
      go_wp2_with fail
      refine (rBytes_any _ w3.heap.size (.slice none 0 0) s A c n l w5 (H.out.old_ HB5.out |>.mono fun i hi hlt => hlt) HN.out (by have := HT.out; omega) HR5.out (by rintro i rfl; omega) (by omega)).mono ?_
      intro e w6 h6
      unfold RBytesPost at h6
      rw [if_neg HBIG.out] at h6
      obtain ⟨y, G6, rfl, hy6, hr6, hc6, hg6⟩ := h6
      rw [HWS.out, HM.out] at hy6
      obtain ⟨A6, c6, rfl, hO6⟩ := ownB_of hy6
      have HO6 := Lib.hid hO6
      have HX6 := Lib.hid (own_chg_ge HO5.out.own hc6 (fun i hi => by have : i = w3.heap.size := hi; omega))
      obtain ⟨A5', c5', e5, hX6⟩ := ownB_of HX6.out
      cases e5
      have HXX6 := Lib.hid hX6
      have HV6 := Lib.hid (HV3.out.keep HV5.out hc6 (fun i hi e => by have : i = w3.heap.size := e; omega))
      have HB6 : Hid (Below w.heap.size w w6) := ((Chg.of_below HB5.out (fun i => i = w3.heap.size)).trans hc6 (fun i _ h => h)).below (Nat.le_refl _) (fun i hi e => by omega)
      have hs6 : w5.heap.size ≤ w6.heap.size := hc6.size
      clear hy6 hO6 hX6 hr6 hc6 hg6
      go_wp2_with (first
        | (go_at_call 10; refine (rEqual_any A5 A6 c5 c6 m m ws ws w6 _ _ HXX6.out.row HO6.out.row HM.out HM.out).mono ?_; rintro e w7 ⟨rfl, q7, rfl⟩; rw [decide_eq_true (rfl : ws = ws)]))
      refine (From_any (fun i => w4.heap.size ≤ i ∧ i < w6.heap.size) v b (s.next (bodyOf l)) A5 c5 m ws (w6.drewN q7) (HXX6.out.row.move fun i hi hlt => ⟨⟨hi.1, hlt⟩, rfl⟩) HM.out HXX6.out.le (fun i hi => ⟨hi.2, fun h => by have := HV3.out.foot_lt i (foot_next h); omega⟩) (by omega) (HV6.out.chg (chg_drewN (fun _ => False) w6 q7) (fun _ _ h => h)) (by omega)).mono ?_
      intro e w8 h8
      obtain ⟨z, rfl, hz8, hv8, hc8⟩ := h8
      rw [HRB.out] at hz8 ⊢
      obtain ⟨A8, c8, rfl, hz1, hz2, hz3⟩ := hz8
      have HZ8 := Lib.hid hz3
      have HB8 : Hid (Below w.heap.size w w8) := ((Chg.of_below (below_drewN HB6.out q7) (fun i => i = b)).trans hc8 (fun i _ h => foot_eq h)).below (Nat.le_refl _) (fun i hi e => by omega)
      clear hv8 hc8 hz3
      go_wp2_with (first
        | (go_at_call 12
           refine (Same_any A8 A c8 c _ n l l w8 _ _ HZ8.out (H.out.old_ HB8.out) rfl HN.out).mono ?_
           rintro e w9 ⟨rfl, q9, rfl⟩
           rw [(eqCs_iff l l).2 rfl]))
      go_ret
      exact ⟨rfl, below_drewN HB8.out q9⟩
  · rw [decide_eq_false hsm]
    go_wp2_with fail
    go_ret
    exact ⟨rfl, HB2.out⟩
end Go.Proofs.YtkenmpggblefiaaGreatDoor
