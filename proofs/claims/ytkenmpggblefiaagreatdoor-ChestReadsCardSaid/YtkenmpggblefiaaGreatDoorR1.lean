/- The walks of the reference's digest. -/
import Derived.Test.YtkenmpggblefiaaGreatDoorW1
namespace Go.Proofs.YtkenmpggblefiaaGreatDoor
open Go.RowKit

theorem bits_or_comm (k : IntKind) (x y : Int) : Go.bits .or k x y = Go.bits .or k y x := by
  simp only [Go.bits]
  rw [BitVec.or_comm]

set_option maxHeartbeats 400000 in
theorem ror_any (x : Int) (n : Nat) (w : World) (h0 : 0 < n) (hn : n < 32) :
    Calls Tryz.prog 61 #[.int .u32 x, .int .i64 n] w fun e w' => e = .returned (.int .u32 (rl x (32 - n))) ∧ w = w' := by
  go_enter Tryz.func61, Tryz.ntmps61
  go_wp2_with fail
  go_ret
  refine ⟨?_, rfl⟩
  rw [rl, show 32 - (32 - n) = n by omega, bits_or_comm]
  rfl

set_option maxHeartbeats 400000 in
theorem rH_any (w : World) :
    Calls Tryz.prog 47 #[] w fun e w' => ∃ g, e = .returned (.slice (some ⟨g, 0, none⟩) 8 8) ∧ Blk w' g 98 (n32 hSha).toArray ∧ Below w.heap.size w w' := by
  go_enter Tryz.func47, Tryz.ntmps47
  go_wp2_with fail
  go_ret
  exact ⟨_, rfl, Blk.new w _ _, (Below.refl _ _).alloc (Nat.le_refl _) _⟩

set_option maxHeartbeats 1000000 in
set_option maxRecDepth 100000 in
theorem rK_any (w : World) :
    Calls Tryz.prog 48 #[] w fun e w' => ∃ g, e = .returned (.slice (some ⟨g, 0, none⟩) 64 64) ∧ Blk w' g 98 (n32 kSha).toArray ∧ Below w.heap.size w w' := by
  go_enter Tryz.func48, Tryz.ntmps48
  go_wp2_with fail
  go_ret
  exact ⟨_, rfl, Blk.new w _ _, (Below.refl _ _).alloc (Nat.le_refl _) _⟩

/-- the bytes of a number, the greatest first, as the reference builds them -/
theorem Little_new (v n : Nat) (w : World) (hv : v < 18446744073709551616) (hn : n ≤ 8) :
    Calls Tryz.prog 41 #[.int .u64 v, .int .i64 n] w fun e w' => ∃ A c, e = .returned (.slice A n c) ∧ OwnB w' w.heap.size A n c (leB v n) ∧ Below w.heap.size w w' :=
  (Little_any v n w hv hn).mono fun e w' ⟨x, h1, h2, h3⟩ => by
    subst h1
    obtain ⟨A, c, rfl, h4⟩ := ownB_of h2
    exact ⟨A, c, rfl, h4, h3⟩
theorem Back_new (A : Option Addr) (c n : Nat) (xs : List UInt8) (w : World) (h : HasB w A n xs) (hs : n ≤ 70368744177664) :
    Calls Tryz.prog 40 #[.slice A n c] w fun e w' => ∃ A c, e = .returned (.slice A n c) ∧ OwnB w' w.heap.size A n c xs.reverse ∧ Below w.heap.size w w' :=
  (Back_any A c n xs w h.row h.len hs).mono fun e w' ⟨x, h1, h2, h3⟩ => by
    subst h1
    obtain ⟨A, c, rfl, h4⟩ := ownB_of h2
    exact ⟨A, c, rfl, h4, h3⟩

/-- a message padded -/
def padOf (xs : List UInt8) : List UInt8 := xs ++ (0x80 :: List.replicate ((119 - xs.length % 64) % 64) 0 ++ beB (8 * xs.length) 8)

set_option maxHeartbeats 400000 in
theorem Pad_any (A : Option Addr) (c n : Nat) (xs : List UInt8) (w : World) (h : HasB w A n xs) (hx : n < 100000000000000) :
    Calls Tryz.prog 46 #[.slice A n c] w fun e w' => NewB w w' e (padOf xs) := by
  have H := Lib.hid h
  have HL := Lib.hid h.len
  clear h
  obtain ⟨z, hz⟩ : ∃ z, z = (119 - n % 64) % 64 := ⟨_, rfl⟩
  go_enter Tryz.func46, Tryz.ntmps46
  go_wp2_with (first
    | (with_reducible change wpList _ _ _ ({ dst := some 6, op := _, type := _, pos := _, after := _, guard := _ } :: _) _ _; go_must (refine wpList_cat rfl (.tmp 4) (.tmp 5) 33 rfl w.heap.size Tryz.underlying33 Tryz.info5 (own_emptyB w _ (Nat.le_refl _)) rfl (below_new w _) c rfl (H.out.kept (below_new w _)) (by omega) (below_new w _).size ?_)
       rintro v1 w1 hown1 hb1 _ _
       have HO1 := Lib.hid hown1
       have HB1 := Lib.hid hb1
       clear hown1 hb1)
    | (with_reducible change wpList _ _ _ ({ dst := some 8, op := _, type := _, pos := _, after := _, guard := _ } :: _) _ _; go_must (refine wpList_push rfl (.tmp 6) (.tmp 7) 33 rfl w.heap.size 5 (.int .u8 0) 1 Tryz.underlying33 Tryz.info5 rfl v1 (0 + n) _ (.int .u8 128) rfl rfl rfl (HO1.out) (HB1.out) (by simp only [maxLen]; omega) (by omega) (HB1.out).size ?_)
       rintro v2 w2 hown2 hb2 _ _
       have HO2 := Lib.hid hown2
       have HB2 := Lib.hid hb2
       clear hown2 hb2))
  go_loopw [3] (fun v wr => ∃ k : Nat, k ≤ z ∧ wr.ownsRow w.heap.size 5 1 v (n + 1 + k) (bts (xs ++ 0x80 :: List.replicate k 0)) ∧ Below w.heap.size w wr) (fun v _ => 128 + n - slen v)
  case atStart =>
    refine ⟨0, by omega, ?_, HB2.out⟩
    have h9 := HO2.out
    rw [show 0 + n + 1 = n + 1 + 0 by omega] at h9
    rw [show ([Value.int .u8 128] : List Value) = bts [0x80] from rfl, ← bts_append] at h9
    exact h9
  case round =>
    obtain ⟨k, hk, hown, hb⟩ := hrel
    obtain ⟨A3, c3, rfl, h3⟩ := ownB_of hown
    have HO := Lib.hid h3
    have HB := Lib.hid hb
    clear h3 hb hown
    by_cases hlt : k < z
    · have hd : (((n + 1 + k : Nat) : Int) % 64 != 56) = true := by rw [bne_iff_ne]; omega
      go_wp2_with (with_reducible change wpList _ _ _ ({ dst := some 15, op := _, type := _, pos := _, after := _, guard := _ } :: _) _ _; go_must (refine wpList_push rfl (.tmp 13) (.tmp 14) 33 rfl w.heap.size 5 (.int .u8 0) 1 Tryz.underlying33 Tryz.info5 rfl (.slice A3 (n + 1 + k) c3) (n + 1 + k) _ (.int .u8 0) rfl rfl rfl (HO.out.own) (HB.out) (by simp only [maxLen]; omega) (by omega) (HB.out).size ?_); rintro v' w' hown hb _ _)
      go_roundw
      case measure =>
        obtain ⟨A4, c4, rfl, _⟩ := ownB_of (ys := (xs ++ 0x80 :: List.replicate k 0) ++ [0]) (by rw [bts_append]; exact hown)
        simp only [slen]
        omega
      case rel =>
        refine ⟨k + 1, by omega, ?_, hb⟩
        rw [show ([Value.int .u8 0] : List Value) = bts [0] from rfl, ← bts_append] at hown
        rw [List.replicate_succ', show n + 1 + (k + 1) = n + 1 + k + 1 by omega]
        simpa using hown
    · have hd : (((n + 1 + k : Nat) : Int) % 64 != 56) = false := by simp; omega
      obtain rfl : k = z := by omega
      have hkb : k < 64 := by omega
      have HZ := Lib.hid hz
      clear hz hk hlt
      go_wp2_with fail
      rw [show (8 * (n : Int)) = ((8 * n : Nat) : Int) by omega]
      refine (Little_new (8 * n) 8 _ (by omega) (by omega)).mono ?_
      rintro e w4 ⟨A4, c4, rfl, h4, hb4⟩
      have HO4 := Lib.hid h4
      have HB4 := Lib.hid (below_next HB.out hb4)
      have HOO := Lib.hid (HO.out.kept hb4)
      clear h4 hb4
      go_wp2_with fail
      refine (Back_new A4 c4 8 _ _ HO4.out.has (by omega)).mono ?_
      rintro e w5 ⟨A5, c5, rfl, h5, hb5⟩
      have HO5 := Lib.hid h5
      have HB5 := Lib.hid (below_next HB4.out hb5)
      have HOOO := Lib.hid (HOO.out.kept hb5)
      clear h5 hb5
      go_wp2_with (with_reducible change wpList _ _ _ ({ dst := some 23, op := _, type := _, pos := _, after := _, guard := _ } :: _) _ _; go_must (refine wpList_cat rfl (.tmp 16) (.tmp 22) 33 rfl w.heap.size Tryz.underlying33 Tryz.info5 (HOOO.out.own) rfl (HB5.out) c5 rfl (HO5.out.has) (by omega) (HB5.out).size ?_)
                   rintro v6 w6 hown6 hb6 _ _)
      go_ret
      refine ⟨_, rfl, ?_, hb6⟩
      rw [leB_reverse] at hown6
      have hl := HL.out
      have hzz := HZ.out
      unfold padOf
      rw [hl, ← hzz]
      have e1 : (xs ++ (128 :: List.replicate k 0 ++ beB (8 * n) 8)).length = n + 1 + k + 8 := by simp [beB_length, hl]; omega
      rw [e1]
      simpa using hown6
end Go.Proofs.YtkenmpggblefiaaGreatDoor
