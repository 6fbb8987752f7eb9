/- The walks of the reference's chests. -/
import Derived.Test.YtkenmpggblefiaaGreatDoorC0
namespace Go.Proofs.YtkenmpggblefiaaGreatDoor
open Go.RowKit
attribute [local go_sem ↓] Go.wp_at_zero Go.wp_at_succ

set_option maxHeartbeats 1000000 in
theorem Small_any (A : Option Addr) (c n : Nat) (l : List Chest) (most : Nat) (w : World) (h : RowV kChest w (old w) A l) (hn : l.length = n) (hm : most ≤ 100000) (hB : ∀ x ∈ l, x.tag.length ≤ 140737488355328 ∧ x.text.length ≤ 140737488355328 ∧ ∀ t ∈ x.layers, t.length ≤ 140737488355328) :
    Calls Tryz.prog 6 #[.slice A n c, .int .i64 most] w fun e w' => e = .returned (.bool (decide (tot l ≤ most))) ∧ ∃ q, w' = w.drewN q := by
  have H := Lib.hid h
  have HN := Lib.hid hn
  have HBD := Lib.hid hB
  have hl := h.1
  rw [hn] at hl
  clear h hn hB
  go_enter Tryz.func6, Tryz.ntmps6
  go_wp2_with fail
  go_loopw [5, 6, 7] (fun v i _ wr => ∃ k t : Nat, k ≤ n ∧ i = .int .i64 k ∧ v = .int .i64 t ∧ Hid (t = tot (l.take k) ∨ (most < t ∧ most < tot l)) ∧ t < 1152921504606846976 ∧ ∃ q, wr = w.drewN q) (fun _ i _ _ => n - (intOf i).toNat)
  case atStart => exact ⟨0, 0, by omega, rfl, rfl, .inl rfl, by omega, 0, rfl⟩
  case round =>
    obtain ⟨k, t, hk, rfl, rfl, HT, ht, q, rfl⟩ := hrel
    by_cases hlt : k < n
    · have hd := hd_lt_t hlt
      by_cases hle : t ≤ most
      · have hd2 : decide ((t : Int) ≤ (most : Int)) = true := by simp; omega
        obtain ⟨ad, x, B, cb, D, dd, rfl, ho, HX, c0, ht0, c1, hb1, hb2, hb3, c2, hd1, hd3, hd4⟩ := row_chest_get H.out (k := k) (by have := HN.out; omega)
        have hsz := bs_size x.tag
        obtain ⟨n1, hn1⟩ : ∃ n1, x.tag.length = n1 := ⟨_, rfl⟩
        obtain ⟨n2, hn2⟩ : ∃ n2, x.text.length = n2 := ⟨_, rfl⟩
        obtain ⟨n3, hn3⟩ : ∃ n3, x.layers.length = n3 := ⟨_, rfl⟩
        rw [hn1] at hsz ht0
        rw [hn2] at c1 hb1
        rw [hn3] at c2 hd1
        have htt : t = tot (l.take k) := by
          rcases HT.out with h9 | h9
          · exact h9
          · omega
        have hnext : t + (1 + n1 + n2 + totL x.layers) ≤ tot l := by
          have h9 := tot_take_le l (k + 1)
          rw [take_snoc HX.out, tot_snoc, ← htt, hn1, hn2] at h9
          exact h9
        have HTT := Lib.hid htt
        have HNX := Lib.hid hnext
        have hn3b : n3 < 9223372036854775808 := by simp only [maxLen] at hd3; omega
        obtain ⟨hbx1, hbx2, hbx3⟩ := HBD.out x (List.mem_of_getElem? HX.out)
        rw [hn1] at hbx1
        rw [hn2] at hbx2
        have HB3 := Lib.hid hbx3
        have hsm : t + 1 + n1 + n2 < 1152921504606846976 := by omega
        clear hbx3
        clear htt hnext
        have i0 : (0 : Int) ≤ (k : Int) := by omega
        have i1 : (k : Int) < (n : Int) := by omega
        have HN1 := Lib.hid hn1
        have HN2 := Lib.hid hn2
        have HN3 := Lib.hid hn3
        have HL := Lib.hid hd4
        clear hn1 hn2 hn3 hb3 hd4
        rw [← add_of_add] at c1 c2
        replace c1 : w.cell? ⟨(ad.add (k * 3)).block, (ad.add (k * 3)).off + 1, none⟩ = _ := c1
        replace c2 : w.cell? ⟨(ad.add (k * 3)).block, (ad.add (k * 3)).off + 2, none⟩ = _ := c2
        have e1 : IntKind.i64.wrap ((t : Int) + 1) = (t : Int) + 1 := IntWalk.i64_in _ (by omega)
        have e2 : IntKind.i64.wrap ((t : Int) + 1 + (n1 : Int)) = (t : Int) + 1 + (n1 : Int) := IntWalk.i64_in _ (by omega)
        have e3 : IntKind.i64.wrap ((t : Int) + 1 + (n1 : Int) + (n2 : Int)) = (t : Int) + 1 + (n1 : Int) + (n2 : Int) := IntWalk.i64_in _ (by omega)
        go_wp2_with fail
        go_quiet (fail)
        go_wp2_with fail
        go_loopw [5, 7] (fun v i wr => ∃ j t' : Nat, j ≤ n3 ∧ i = .int .i64 j ∧ v = .int .i64 t' ∧ Hid (t' = t + 1 + n1 + n2 + totL (x.layers.take j)) ∧ t' < 1152921504606846976 ∧ ∃ q, wr = w.drewN q) (fun _ i _ => n3 - (intOf i).toNat)
        case atStart => exact ⟨0, t + 1 + n1 + n2, by omega, rfl, by go_num, by show _ = _; simp [totL], hsm, _, World.drewN_drewN ..⟩
        case round =>
          obtain ⟨j, t', hj, rfl, rfl, HJ, ht', q', rfl⟩ := hrel
          by_cases hjl : j < n3
          · have hd5 := hd_lt_t hjl
            obtain ⟨ad2, y, B2, cb2, rfl, ho2, HY, cy, hy1, hy2, hy3⟩ := row_rows_get HL.out (k := j) (by have := HN3.out; omega)
            obtain ⟨n4, hn4⟩ : ∃ n4, y.length = n4 := ⟨_, rfl⟩
            rw [hn4] at cy hy1
            have hb4 : n4 ≤ 140737488355328 := by
              have := HB3.out y (List.mem_of_getElem? HY.out)
              rw [hn4] at this
              exact this
            have i2 : (0 : Int) ≤ (j : Int) := by omega
            have i3 : (j : Int) < (n3 : Int) := by omega
            have HN4 := Lib.hid hn4
            clear hn4 hy3
            by_cases hle2 : t' ≤ most
            · have hd6 : decide ((t' : Int) ≤ (most : Int)) = true := by simp; omega
              have hj5 : t' + 1 + n4 < 1152921504606846976 := by omega
              have e4 : IntKind.i64.wrap ((t' : Int) + 1) = (t' : Int) + 1 := IntWalk.i64_in _ (by omega)
              have e5 : IntKind.i64.wrap ((t' : Int) + 1 + (n4 : Int)) = (t' : Int) + 1 + (n4 : Int) := IntWalk.i64_in _ (by omega)
              go_wp2_with fail
              go_roundw
              case measure => simp [intOf]; omega
              case rel =>
                refine ⟨j + 1, t' + 1 + n4, by omega, by go_num, by go_num, ?_, hj5, _, rfl⟩
                show _ = _
                rw [take_snoc HY.out, totL_snoc, HN4.out, HJ.out]
                omega
            · have hd6 : decide ((t' : Int) ≤ (most : Int)) = false := by simp; omega
              have hgt : most < tot l := by
                have h8 := totL_take_le x.layers j
                have h9 := HNX.out
                have h10 := HJ.out
                omega
              go_wp2_with fail
              go_roundw
              case measure => simp [intOf]; omega
              case rel => exact ⟨k + 1, t', by omega, by go_num, rfl, .inr ⟨by omega, hgt⟩, ht', _, rfl⟩
          · have hd5 := hd_lt_f hjl
            obtain rfl : j = n3 := by omega
            have hfull : t' = tot (l.take (k + 1)) := by
              rw [take_snoc HX.out, tot_snoc, HN1.out, HN2.out, ← HTT.out, HJ.out, List.take_of_length_le (by have := HN3.out; omega)]
              omega
            have HF := Lib.hid hfull
            clear hfull
            go_wp2_with fail
            go_roundw
            case measure => simp [intOf]; omega
            case rel => exact ⟨k + 1, t', by omega, by go_num, rfl, .inl HF.out, ht', _, rfl⟩
      · have hd2 : decide ((t : Int) ≤ (most : Int)) = false := by simp; omega
        have hr : decide (tot l ≤ most) = false := by
          rcases HT.out with h9 | h9
          · have := tot_take_le l k
            simp; omega
          · simp; omega
        have HR := Lib.hid hr
        clear hr
        go_wp2_with fail
        go_ret
        rw [HR.out]
        exact ⟨rfl, _, rfl⟩
    · have hd := hd_lt_f hlt
      obtain rfl : k = n := by omega
      have hr : decide (t ≤ most) = decide (tot l ≤ most) := by
        rcases HT.out with h9 | h9
        · rw [List.take_of_length_le (by have := HN.out; omega)] at h9
          rw [h9]
        · simp; omega
      have HR := Lib.hid hr
      clear hr
      go_wp2_with fail
      go_ret
      refine ⟨?_, _, rfl⟩
      rw [← HR.out]
      rfl
end Go.Proofs.YtkenmpggblefiaaGreatDoor
