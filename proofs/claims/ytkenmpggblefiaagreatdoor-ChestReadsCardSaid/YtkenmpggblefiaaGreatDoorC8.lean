/- The walks of the program's Bytes. -/
import Derived.Test.YtkenmpggblefiaaGreatDoorC7
namespace Go.Proofs.YtkenmpggblefiaaGreatDoor
open Go.RowKit
attribute [local go_sem ↓] Go.wp_at_zero Go.wp_at_succ

set_option maxHeartbeats 400000 in
theorem listChest_any (G ok : Nat → Prop) (p : Nat) (v : Value) (ys : List UInt8) (m : Nat) (A : Option Addr) (c n : Nat) (l : List Chest) (w : World) (h : WrAcc G w p v ys) (hm : ys.length = m) (hmb : m < 1000000) (hx : RowV kChest w ok A l) (hn : l.length = n) (hok : ∀ b, ok b → ¬ G b) (hT : tot l < 100000) :
    Calls Tryz.prog 20 #[.pointer (some ⟨p, 0, none⟩), .slice A n c, Value.func (.func 21) #[.pointer (some ⟨p, 0, none⟩)] #[]] w fun e w' => WrPost G p (ys ++ beB n 4 ++ chestsOf l) w e w' := by
  have hl := hx.1
  rw [hn] at hl
  have htl := tot_len l
  rw [hn] at htl
  have HX := Lib.hid hx
  have HN := Lib.hid hn
  have HA := Lib.hid h
  have HM := Lib.hid hm
  clear h hx hn hm
  go_enter Tryz.func20, Tryz.ntmps20
  go_wp2_with fail
  refine (number_any G p v ys m n w HA.out HM.out (by omega) (by omega)).mono ?_
  rintro e w1 ⟨rfl, G1, hw1, hc1, hg1⟩
  have HC1 := Lib.hid hc1
  have HG1 := Lib.hid hg1
  have HW1 := Lib.hid hw1
  clear hw1 hc1 hg1
  go_wp2_with fail
  go_loopw [7, 14] (fun _ i wr => ∃ k : Nat, k ≤ n ∧ i = .int .i64 k ∧ ∃ G', WrAt G' wr p (ys ++ beB n 4 ++ chestsOf (l.take k)) ∧ Chg G w wr ∧ ∀ b, G' b → G b ∨ (w.heap.size ≤ b ∧ b < wr.heap.size)) (fun _ i _ => n - (intOf i).toNat)
  case atStart => exact ⟨0, by omega, rfl, G1, by simpa [chestsOf] using HW1.out, HC1.out, HG1.out⟩
  case round =>
    obtain ⟨k, hk, rfl, G2, hw2, hc2, hg2⟩ := hrel
    have HC2 := Lib.hid hc2
    have HG2 := Lib.hid hg2
    have HW2 := Lib.hid hw2
    clear hw2 hc2 hg2
    by_cases hlt : k < n
    · have hd := hd_lt_t hlt
      have hrw := HX.out.keep HC2.out (fun b _ hb => hok b hb)
      obtain ⟨ad, x, B, cb, D, dd, rfl, ho, HXX, c0, ht0, c1, hb1, hb2, hb3, c2, hd1, hd3, hd4⟩ := row_chest_get hrw (k := k) (by have := HN.out; omega)
      obtain ⟨n1, hn1⟩ : ∃ n1, x.text.length = n1 := ⟨_, rfl⟩
      obtain ⟨n2, hn2⟩ : ∃ n2, x.layers.length = n2 := ⟨_, rfl⟩
      rw [← add_of_add] at c1 c2
      rw [hn1] at c1
      rw [hn2] at c2
      replace c1 : wr.cell? ⟨(ad.add (k * 3)).block, (ad.add (k * 3)).off + 1, none⟩ = some (.slice B n1 cb) := c1
      replace c2 : wr.cell? ⟨(ad.add (k * 3)).block, (ad.add (k * 3)).off + 2, none⟩ = some (.slice D n2 dd) := c2
      have i0 : (0 : Int) ≤ (k : Int) := by omega
      have i1 : (k : Int) < (n : Int) := by omega
      have HN1 := Lib.hid hn1
      have HN2 := Lib.hid hn2
      have HB3 := Lib.hid hb3
      have HD4 := Lib.hid hd4
      have hnok : ∀ b, (ok b ∧ b < w.heap.size) → ¬ (G2 b ∧ b < wr.heap.size) := by
        rintro b ⟨h1, h2⟩ ⟨h3, _⟩
        rcases HG2.out b h3 with h | h
        · exact hok b h1 h
        · omega
      obtain ⟨m2, hm2⟩ : ∃ m2, (ys ++ beB n 4 ++ chestsOf (l.take k)).length = m2 := ⟨_, rfl⟩
      have hm2b : m2 < 10000000 := by
        have h8 := tot_take_le l k
        have h9 := chestsOf_le (l.take k)
        rw [← hm2, List.length_append, List.length_append, beB_length, HM.out]
        omega
      have hx1 : tot [x] < 100000 := by
        have h8 := tot_take_le l (k + 1)
        rw [take_snoc HXX.out, tot_append] at h8
        omega
      have HM2 := Lib.hid hm2
      have HX1 := Lib.hid hx1
      clear hm2 hn1 hn2 hb3 hd4 hrw hx1 ho
      go_wp2_with fail
      refine (wchest_any (fun b => G2 b ∧ b < wr.heap.size) (fun b => ok b ∧ b < w.heap.size) p _ m2 (.slice B n1 cb) (.slice D n2 dd) x _
        ((HW2.out.mono fun b hb h => ⟨h, hb⟩).below (below_new wr _)) HM2.out hm2b
        (by rw [← HN1.out]; exact ⟨B, cb, rfl, hb1, hb2, HB3.out.below (below_new wr _)⟩)
        (by rw [← HN2.out]; exact ⟨D, dd, rfl, hd1, hd3, HD4.out.below (below_new wr _)⟩) hnok HX1.out).mono ?_
      intro e w3 h3
      have h4 := h3.trans (HC2.out.trans (Chg.of_below (below_new wr (.cells #[.string (bs x.tag), .slice B n1 cb, .slice D n2 dd] 49)) G) (fun _ _ h => h)) (fun b hb => by
        rcases HG2.out b hb.1 with h | h
        · exact .inl h
        · exact .inr (by simp; omega))
      obtain ⟨rfl, G3, hw3, hc3, hg3⟩ := h4
      go_wp2_with fail
      go_roundw
      case measure => simp [intOf]; omega
      case rel =>
        refine ⟨k + 1, by omega, by go_num, G3, ?_, hc3, hg3⟩
        rw [take_snoc HXX.out, chestsOf_snoc, ← List.append_assoc]
        exact hw3
    · have hd := hd_lt_f hlt
      obtain rfl : k = n := by omega
      go_wp2_with fail
      go_end0
      have h9 := HW2.out
      rw [List.take_of_length_le (by have := HN.out; omega)] at h9
      exact ⟨rfl, G2, h9, HC2.out, HG2.out⟩

theorem pred_any (a b : Value) (D : Option Addr) (dd n : Nat) (w : World) :
    Calls Tryz.prog 19 #[.agg #[a, b, .slice D n dd]] w fun e w' => e = .returned (.bool (decide (64 < n))) ∧ Below w.heap.size w w' := by
  go_enter Tryz.func19, Tryz.ntmps19
  go_wp2_with fail
  go_ret
  refine ⟨?_, below_new w _⟩
  have e : decide ((64 : Int) < (n : Int)) = decide (64 < n) := by
    rw [Bool.eq_iff_iff]
    simp
    omega
  exact congrArg (fun b => Ending.returned (Value.bool b)) e

set_option maxHeartbeats 400000 in
theorem index_any (A : Option Addr) (c n : Nat) (l : List Chest) (w : World) (h : RowV kChest w (old w) A l) (hn : l.length = n) :
    Calls Tryz.prog 36 #[.slice A n c, Value.func (.func 19) #[] #[]] w fun e w' => (∃ i : Int, e = .returned (.int .i64 i) ∧ decide (i ≥ 0) = l.any fun x => decide (64 < x.layers.length)) ∧ Below w.heap.size w w' := by
  have hl := h.1
  rw [hn] at hl
  have H := Lib.hid h
  have HN := Lib.hid hn
  clear h hn
  go_enter Tryz.func36, Tryz.ntmps36
  go_wp2_with fail
  go_loopw [5, 8] (fun _ i wr => ∃ k : Nat, k ≤ n ∧ i = .int .i64 k ∧ Hid ((l.take k).any (fun x => decide (64 < x.layers.length)) = false) ∧ Below w.heap.size w wr) (fun _ i _ => n - (intOf i).toNat)
  case atStart => exact ⟨0, by omega, rfl, rfl, Below.refl _ _⟩
  case round =>
    obtain ⟨k, hk, rfl, HE, hb⟩ := hrel
    have HB := Lib.hid hb
    clear hb
    by_cases hlt : k < n
    · have hd := hd_lt_t hlt
      obtain ⟨ad, x, B, cb, D, dd, rfl, ho, HXX, c0, ht0, c1, hb1, hb2, hb3, c2, hd1, hd3, hd4⟩ := row_chest_get (H.out.old_ HB.out) (k := k) (by have := HN.out; omega)
      obtain ⟨n1, hn1⟩ : ∃ n1, x.text.length = n1 := ⟨_, rfl⟩
      obtain ⟨n2, hn2⟩ : ∃ n2, x.layers.length = n2 := ⟨_, rfl⟩
      rw [← add_of_add] at c1 c2
      rw [hn1] at c1
      rw [hn2] at c2
      replace c1 : wr.cell? ⟨(ad.add (k * 3)).block, (ad.add (k * 3)).off + 1, none⟩ = some (.slice B n1 cb) := c1
      replace c2 : wr.cell? ⟨(ad.add (k * 3)).block, (ad.add (k * 3)).off + 2, none⟩ = some (.slice D n2 dd) := c2
      have i0 : (0 : Int) ≤ (k : Int) := by omega
      have i1 : (k : Int) < (n : Int) := by omega
      have HN2 := Lib.hid hn2
      clear hn1 hn2 hb1 hb2 hb3 hd1 hd3 hd4 ho
      by_cases hgt : 64 < n2
      · have hany : l.any (fun x => decide (64 < x.layers.length)) = true := by
          rw [List.any_eq_true]
          exact ⟨x, List.mem_of_getElem? HXX.out, by rw [HN2.out]; simpa using hgt⟩
        have HANY := Lib.hid hany
        clear hany
        go_wp2_with (first | (go_at_call 19; refine (pred_any _ _ D dd n2 wr).mono ?_; rintro e w3 ⟨rfl, hb3⟩; rw [decide_eq_true hgt]))
        go_ret
        refine ⟨⟨_, rfl, ?_⟩, below_step HB.out HB.out.size hb3⟩
        rw [HANY.out]
        simp
      · go_wp2_with (first | (go_at_call 19; refine (pred_any _ _ D dd n2 wr).mono ?_; rintro e w3 ⟨rfl, hb3⟩; rw [decide_eq_false hgt]))
        go_roundw
        case measure => simp [intOf]; omega
        case rel =>
          refine ⟨k + 1, by omega, by go_num, ?_, below_step HB.out HB.out.size hb3⟩
          show _ = _
          rw [take_snoc HXX.out, List.any_append, HE.out]
          simp [HN2.out]
          omega
    · have hd := hd_lt_f hlt
      obtain rfl : k = n := by omega
      go_wp2_with fail
      go_ret
      refine ⟨⟨_, rfl, ?_⟩, HB.out⟩
      have h9 := HE.out
      rw [List.take_of_length_le (by have := HN.out; omega)] at h9
      rw [h9]
      rfl
theorem contains_any (A : Option Addr) (c n : Nat) (l : List Chest) (w : World) (h : RowV kChest w (old w) A l) (hn : l.length = n) :
    Calls Tryz.prog 18 #[.slice A n c, Value.func (.func 19) #[] #[]] w fun e w' => e = .returned (.bool (l.any fun x => decide (64 < x.layers.length))) ∧ Below w.heap.size w w' := by
  go_enter Tryz.func18, Tryz.ntmps18
  go_wp2_with fail
  refine (index_any A c n l w h hn).mono ?_
  rintro e w3 ⟨⟨i, rfl, hi⟩, hb3⟩
  go_wp2_with fail
  go_ret
  exact ⟨by rw [← hi]; rfl, hb3⟩
end Go.Proofs.YtkenmpggblefiaaGreatDoor
