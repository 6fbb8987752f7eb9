/- The walks of the reference's numbers. -/
import Derived.Test.YtkenmpggblefiaaGreatDoorS0
namespace Go.Proofs.YtkenmpggblefiaaGreatDoor
open Go.RowKit

set_option maxHeartbeats 400000 in
theorem Little_any (v n : Nat) (w : World) (hv : v < 18446744073709551616) (hn : n ≤ 8) :
    Calls Tryz.prog 41 #[.int .u64 v, .int .i64 n] w fun e w' => ∃ x, e = .returned x ∧ w'.ownsRow w.heap.size 5 1 x n (bts (leB v n)) ∧ Below w.heap.size w w' := by
  go_enter Tryz.func41, Tryz.ntmps41
  go_wp2_with fail
  go_loopw [0, 5, 6] (fun q x i wr => ∃ k : Nat, k ≤ n ∧ i = .int .i64 k ∧ q = .int .u64 ((v / 256 ^ k : Nat) : Int) ∧ wr.ownsRow w.heap.size 5 1 x k (bts (leB v k)) ∧ Below w.heap.size w wr) (fun _ _ i _ => n - (intOf i).toNat)
  case atStart => exact ⟨0, Nat.zero_le _, rfl, by simp, World.ownsRow_nil _ _ _ _, Below.refl _ _⟩
  case round =>
    obtain ⟨k, hk, rfl, rfl, hown, hb⟩ := hrel
    have HO := Lib.hid hown
    have HB := Lib.hid hb
    clear hown hb
    have hq : v / 256 ^ k < 18446744073709551616 := Nat.lt_of_le_of_lt (Nat.div_le_self _ _) hv
    generalize hqq : v / 256 ^ k = q at *
    have HQ := Lib.hid hqq
    clear hqq
    by_cases hlt : k < n
    · go_wp2_with (at_builtin; go_must (refine wpList_push rfl (.tmp 12) (.tmp 16) 33 rfl w.heap.size 5 (.int .u8 0) 1 Tryz.underlying33 Tryz.info5 rfl u5 k _ (.int .u8 ((q : Int) % 256)) rfl rfl rfl HO.out HB.out (by simp only [maxLen]; omega) (by omega) HB.out.size ?_); rintro v' w' hown hb _ _)
      go_roundw
      case measure => simp [intOf]; omega
      case rel =>
        refine ⟨k + 1, by omega, by go_num, ?_, ?_, hb⟩
        · rw [← HQ.out, Nat.pow_succ, ← Nat.div_div_eq_div_mul, HQ.out]; simp
        · rw [← HQ.out, byte_mod, bts_one1, ← bts_append] at hown
          exact hown
    · go_wp2_with fail
      go_ret
      obtain rfl : k = n := by omega
      exact ⟨_, rfl, HO.out, HB.out⟩

set_option maxHeartbeats 400000 in
theorem Back_any (A : Option Addr) (c n : Nat) (xs : List UInt8) (w : World) (h : RowV Kn.byte w (old w) A xs) (hn : xs.length = n) (hs : n ≤ 70368744177664) :
    Calls Tryz.prog 40 #[.slice A n c] w fun e w' => ∃ x, e = .returned x ∧ w'.ownsRow w.heap.size 5 1 x n (bts xs.reverse) ∧ Below w.heap.size w w' := by
  have HN := Lib.hid hn
  clear hn
  go_enter Tryz.func40, Tryz.ntmps40
  go_wp2_with fail
  go_loopw [3, 4] (fun x i wr => ∃ m k : Nat, Hid (m + k = n) ∧ i = .int .i64 ((m : Int) - 1) ∧ wr.ownsRow w.heap.size 5 1 x k (bts (xs.reverse.take k)) ∧ Below w.heap.size w wr) (fun _ i _ => (intOf i + 1).toNat)
  case atStart => exact ⟨n, 0, rfl, rfl, World.ownsRow_nil _ _ _ _, Below.refl _ _⟩
  case round =>
    obtain ⟨m, k, HMK, rfl, hown, hb⟩ := hrel
    have HO := Lib.hid hown
    have HB := Lib.hid hb
    clear hown hb
    have hmn : m ≤ n := by have := HMK.out; omega
    have hkn : k ≤ n := by have := HMK.out; omega
    rcases m with _ | j
    · have hd : decide ((((0 : Nat) : Int) - 1) ≥ 0) = false := by simp
      rw [show (((0 : Nat) : Int) - 1) = -1 from rfl]
      go_wp2_with fail
      go_ret
      obtain rfl : k = n := by have := HMK.out; omega
      have h9 := HO.out
      rw [List.take_of_length_le (by rw [List.length_reverse]; have := HN.out; omega)] at h9
      exact ⟨_, rfl, h9, HB.out⟩
    · rw [show (((j + 1 : Nat) : Int) - 1) = (j : Int) by omega]
      have hjl : j < xs.length := by have := HN.out; omega
      obtain ⟨ad, b, rfl, ho, HJ, hc, hb1⟩ := row_byte_get (h.old_ HB.out) hjl
      clear hjl
      go_wp2_with (at_builtin; go_must (refine wpList_push rfl (.tmp 12) (.tmp 17) 33 rfl w.heap.size 5 (.int .u8 0) 1 Tryz.underlying33 Tryz.info5 rfl u3 k _ (.int .u8 (b.toNat : Int)) rfl rfl rfl HO.out HB.out (by simp only [maxLen]; omega) (by omega) HB.out.size ?_); rintro v' w' hown hb _ _)
      go_roundw
      case measure => simp [intOf]
      case rel =>
        have hmk := HMK.out
        have hnn := HN.out
        refine ⟨j, k + 1, by show _ = _; omega, by go_num, ?_, hb⟩
        rw [bts_one1, ← bts_append] at hown
        rw [take_snoc_rev HJ.out (by omega)]
        exact hown

set_option maxHeartbeats 400000 in
theorem rGetBig_any (A : Option Addr) (c n : Nat) (xs : List UInt8) (m : Nat) (w : World) (ok : Nat → Prop) (h : RowV Kn.byte w ok A xs) (hn : xs.length = n) (hm : m ≤ 8) :
    Calls Tryz.prog 30 #[.slice A n c, .int .i64 m] w fun e w' => e = .returned (.int .u64 ((gB xs m : Nat) : Int)) ∧ w = w' := by
  have hl := h.1
  rw [hn] at hl
  have HN := Lib.hid hn
  clear hn
  go_enter Tryz.func30, Tryz.ntmps30
  go_wp2_with fail
  go_loop [5, 6] (fun v i => ∃ k : Nat, k ≤ m ∧ i = .int .i64 k ∧ v = .int .u64 ((gB xs k : Nat) : Int)) (fun _ i => m - (intOf i).toNat)
  case atStart => exact ⟨0, Nat.zero_le _, rfl, rfl⟩
  case round =>
    obtain ⟨k, hk, rfl, rfl⟩ := hrel
    by_cases hlt : k < m
    · have h1 := gB_lt xs k
      have h3 : 256 ^ k ≤ 256 ^ 7 := Nat.pow_le_pow_right (by omega) (by omega)
      have h4 : gB xs k < 72057594037927936 := by omega
      clear h1 h3
      by_cases hin : k < n
      · have hin' : k < xs.length := by have := HN.out; omega
        obtain ⟨ad, b, rfl, ho, HIN, hc, hb1⟩ := row_byte_get h hin'
        clear hin'
        go_wp2_with fail
        go_round
        case rel => exact ⟨k + 1, by omega, by go_num, congrArg (Value.int .u64) (by simp only [gB]; rw [HIN.out]; simp)⟩
        case measure => simp [intOf]; omega
      · have hin2 : n ≤ k := by omega
        go_wp2_with fail
        go_round
        case rel => exact ⟨k + 1, by omega, by go_num, congrArg (Value.int .u64) (by simp only [gB]; rw [List.getElem?_eq_none (by have := HN.out; omega)]; simp)⟩
        case measure => simp [intOf]; omega
    · go_wp2_with fail
      go_ret
      have : m = k := by omega
      subst this
      exact ⟨rfl, rfl⟩

set_option maxHeartbeats 400000 in
theorem rEqual_any (A B : Option Addr) (c d n m : Nat) (xs ys : List UInt8) (w : World) (ok ok' : Nat → Prop) (h : RowV Kn.byte w ok A xs) (h' : RowV Kn.byte w ok' B ys) (hn : xs.length = n) (hm : ys.length = m) :
    Calls Tryz.prog 10 #[.slice A n c, .slice B m d] w fun e w' => e = .returned (.bool (decide (xs = ys))) ∧ ∃ n, w' = w.drewN n := by
  have hl := h.1
  rw [hn] at hl
  have HN := Lib.hid hn
  have HM := Lib.hid hm
  clear hn hm
  by_cases hlen : n = m
  · subst hlen
    have hne : (((n : Nat) : Int) != ((n : Nat) : Int)) = false := by simp
    go_enter Tryz.func10, Tryz.ntmps10
    go_wp2_with fail
    go_loopw [5] (fun i wr => ∃ k : Nat, k ≤ n ∧ i = .int .i64 k ∧ Hid (xs.take k = ys.take k) ∧ ∃ q, wr = w.drewN q) (fun i _ => n - (intOf i).toNat)
    case atStart => exact ⟨0, Nat.zero_le _, rfl, rfl, 0, rfl⟩
    case round =>
      obtain ⟨k, hk, rfl, HE, q, rfl⟩ := hrel
      by_cases hlt : k < n
      · have i1 : k < xs.length := by have := HN.out; omega
        have i2 : k < ys.length := by have := HM.out; omega
        obtain ⟨ad, b, rfl, ho, I1, hc, b1⟩ := row_byte_get h i1
        obtain ⟨ad', b', rfl, ho', I2, hc', b2⟩ := row_byte_get h' i2
        clear h h' ho ho' i1 i2
        by_cases he : b = b'
        · have hq : (((b.toNat : Nat) : Int) != ((b'.toNat : Nat) : Int)) = false := by rw [he]; simp
          have HQ := Lib.hid he
          clear he
          go_wp2_with fail
          go_quiet (fail)
          go_wp2_with fail
          go_roundw
          case measure => simp [intOf]; omega
          case rel =>
            refine ⟨k + 1, by omega, by go_num, ?_, _, rfl⟩
            show _ = _
            rw [take_snoc I1.out, take_snoc I2.out, HE.out, HQ.out]
        · have hq : (((b.toNat : Nat) : Int) != ((b'.toNat : Nat) : Int)) = true := by
            rw [bne_iff_ne]
            intro e
            exact he (UInt8.toNat_inj.1 (by omega))
          have HQ := Lib.hid he
          clear he
          go_wp2_with fail
          go_quiet (fail)
          go_wp2_with fail
          go_ret
          refine ⟨?_, _, World.drewN_drewN ..⟩
          rw [decide_eq_false (p := xs = ys) (by
            rintro rfl
            exact HQ.out (Option.some.inj (I1.out.symm.trans I2.out)))]
          rfl
      · go_wp2_with fail
        go_ret
        obtain rfl : k = n := by omega
        refine ⟨?_, _, rfl⟩
        have := HE.out
        rw [List.take_of_length_le (by have := HN.out; omega), List.take_of_length_le (by have := HM.out; omega)] at this
        rw [decide_eq_true this]; rfl
  · have hd : decide (xs = ys) = false := decide_eq_false (fun e => hlen (by have := HN.out; have := HM.out; rw [e] at *; omega))
    rw [hd]
    clear hd
    have hne : (((n : Nat) : Int) != ((m : Nat) : Int)) = true := by rw [bne_iff_ne]; omega
    go_enter Tryz.func10, Tryz.ntmps10
    go_wp2_with fail
    go_ret
    exact ⟨rfl, 0, rfl⟩
end Go.Proofs.YtkenmpggblefiaaGreatDoor
