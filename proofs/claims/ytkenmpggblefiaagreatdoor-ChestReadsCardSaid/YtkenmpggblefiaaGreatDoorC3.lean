/- The walks of the reference's comparing and cutting. -/
import Derived.Test.YtkenmpggblefiaaGreatDoorC2
namespace Go.Proofs.YtkenmpggblefiaaGreatDoor
open Go.RowKit
attribute [local go_sem ↓] Go.wp_at_zero Go.wp_at_succ

/-! ### plain: reading -/
/-- a row of bytes from a place on, and the place behind it -/
def tk (xs : List UInt8) (p : Nat) : Option (List UInt8 × Nat) :=
  if p + 4 > xs.length then none else if p + 4 + gB (xs.drop p) 4 > xs.length then none else some ((xs.drop (p + 4)).take (gB (xs.drop p) 4), p + 4 + gB (xs.drop p) 4)
def atI : Option Nat → Int
  | none => -1
  | some p => p
def tkO (xs : List UInt8) (o : Option Nat) : Option (List UInt8 × Nat) := o.bind (tk xs)
def tkRow (xs : List UInt8) (o : Option Nat) : List UInt8 := ((tkO xs o).map Prod.fst).getD []
def tkAt (xs : List UInt8) (o : Option Nat) : Option Nat := (tkO xs o).map Prod.snd
theorem tk_le {xs t : List UInt8} {p q : Nat} (h : tk xs p = some (t, q)) : q ≤ xs.length ∧ t.length ≤ xs.length ∧ p + 4 ≤ q := by
  unfold tk at h
  split at h
  · cases h
  · split at h
    · cases h
    · cases h
      refine ⟨by omega, ?_, by omega⟩
      simp
      omega

theorem HasB.drop {w : World} {ad : Addr} {n : Nat} {xs : List UInt8} (h : HasB w (some ad) n xs) {p : Nat} (hp : p ≤ n) : HasB w (some (ad.add p)) (n - p) (xs.drop p) :=
  ⟨by rw [List.length_drop, h.len], by
    have := h.row.drop_at (k := p) (by rw [h.len]; exact hp)
    rwa [show p * Kn.byte.sz = p from Nat.mul_one p] at this⟩
theorem HasB.take {w : World} {A : Option Addr} {n : Nat} {xs : List UInt8} (h : HasB w A n xs) {k : Nat} (hk : k ≤ n) : HasB w A k (xs.take k) :=
  ⟨by rw [List.length_take, h.len]; omega, h.row.take k⟩

set_option maxHeartbeats 400000 in
theorem take_any (A : Option Addr) (c n : Nat) (xs : List UInt8) (o : Option Nat) (w : World) (h : HasB w A n xs) (hc : n ≤ c) (hx : n < 1000000000000) (ho : ∀ p, o = some p → p ≤ n) :
    Calls Tryz.prog 31 #[.slice A n c, .int .i64 (atI o)] w fun e w' => ∃ v, e = .returned (.tuple #[v, .int .i64 (atI (tkAt xs o))]) ∧ w'.ownsRow w.heap.size 5 1 v (tkRow xs o).length (bts (tkRow xs o)) ∧ Below w.heap.size w w' := by
  have H := Lib.hid h
  have HL := Lib.hid h.len
  clear h
  rcases o with _ | p
  · go_enter Tryz.func31, Tryz.ntmps31
    have hd : decide ((-1 : Int) < 0) = true := rfl
    rw [show atI none = -1 from rfl]
    go_wp2_with fail
    go_ret2
    exact ⟨_, rfl, World.ownsRow_nil _ _ _ _, Below.refl _ _⟩
  · have hp := ho p rfl
    clear ho
    go_enter Tryz.func31, Tryz.ntmps31
    rw [show atI (some p) = (p : Int) from rfl]
    have hd0 : decide ((p : Int) < 0) = false := by simp
    have ew : IntKind.i64.wrap ((p : Int) + 4) = (p : Int) + 4 := IntWalk.i64_in _ (by omega)
    by_cases h4 : p + 4 ≤ n
    · have hd1 : decide ((n : Int) < (p : Int) + 4) = false := by simp; omega
      obtain ⟨ad, rfl⟩ := H.out.some_ (by omega)
      obtain ⟨m, hm⟩ : ∃ m, gB (xs.drop p) 4 = m := ⟨_, rfl⟩
      have hm32 : m < 4294967296 := by rw [← hm]; exact gB_lt _ 4
      have em : IntKind.i64.wrap (m : Int) = (m : Int) := IntWalk.i64_in _ (by omega)
      have em2 : IntKind.i64.wrap ((p : Int) + 4 + (m : Int)) = (p : Int) + 4 + (m : Int) := IntWalk.i64_in _ (by omega)
      have hcp : ¬ c = p := by omega
      have HM := Lib.hid hm
      clear hm
      go_wp2_with fail
      refine (rGetBig_any (some (ad.add p)) (c - p) (n - p) (xs.drop p) 4 _ _ (H.out.drop hp).row (H.out.drop hp).len (by omega)).mono ?_
      rintro e w' ⟨rfl, rfl⟩
      rw [HM.out]
      by_cases hfit : p + 4 + m ≤ n
      · have hd2 : decide ((n : Int) < (p : Int) + 4 + (m : Int)) = false := by simp; omega
        have hN := (H.out.drop (p := p + 4) h4).take (k := m) (by omega)
        have HN := Lib.hid hN
        clear hN
        have hres : tkO xs (some p) = some ((xs.drop (p + 4)).take m, p + 4 + m) := by
          show tk xs p = _
          unfold tk
          rw [if_neg (by have := HL.out; omega), HM.out, if_neg (by have := HL.out; omega)]
        have HR := Lib.hid hres
        clear hres
        have hcan : p + 4 + m - (p + 4) = m := by omega
        by_cases hcc : c = p + 4
        · have hm0 : m = 0 := by omega
          have hz : p + 4 + m = p + 4 := by omega
          subst hcc
          subst hm0
          go_wp2_with (with_reducible change wpList _ _ _ ({ dst := some 37, op := _, type := _, pos := _, after := _, guard := _ } :: _) _ _; go_must (refine wpList_cat rfl (.tmp 28) (.tmp 36) 33 rfl w.heap.size Tryz.underlying33 Tryz.info5 (own_emptyB w _ (Nat.le_refl _)) rfl (below_new w _) (p + 4 - (p + 4)) rfl ((HasB.nil_any _ (some ad))) (by omega) (below_new w _).size ?_)
                       rintro v1 w1 hown1 hb1 _ _)
          go_ret2
          unfold tkAt tkRow
          rw [HR.out]
          exact ⟨_, rfl, by simpa using hown1, hb1⟩
        · go_wp2_with (with_reducible change wpList _ _ _ ({ dst := some 37, op := _, type := _, pos := _, after := _, guard := _ } :: _) _ _; rw [hcan]; with_reducible change wpList _ _ _ ({ dst := some 37, op := _, type := _, pos := _, after := _, guard := _ } :: _) _ _; go_must (refine wpList_cat rfl (.tmp 28) (.tmp 36) 33 rfl w.heap.size Tryz.underlying33 Tryz.info5 (own_emptyB w _ (Nat.le_refl _)) rfl (below_new w _) (c - (p + 4)) rfl ((HN.out.kept (below_new w _))) (by omega) (below_new w _).size ?_)
                       rintro v1 w1 hown1 hb1 _ _)
          go_ret2
          unfold tkAt tkRow
          rw [HR.out]
          refine ⟨_, rfl, ?_, hb1⟩
          rw [show ((Option.map Prod.fst (some ((xs.drop (p + 4)).take m, p + 4 + m))).getD []).length = 0 + m by have := HN.out.len; simpa using this]
          exact hown1
      · have hd2 : decide ((n : Int) < (p : Int) + 4 + (m : Int)) = true := by simp; omega
        have hres : tkO xs (some p) = none := by
          show tk xs p = _
          unfold tk
          rw [if_neg (by have := HL.out; omega), HM.out, if_pos (by have := HL.out; omega)]
        have HR := Lib.hid hres
        clear hres
        go_wp2_with fail
        go_ret2
        unfold tkAt tkRow
        rw [HR.out]
        exact ⟨_, rfl, World.ownsRow_nil _ _ _ _, Below.refl _ _⟩
    · have hd1 : decide ((n : Int) < (p : Int) + 4) = true := by simp; omega
      have hres : tkO xs (some p) = none := by
        show tk xs p = _
        unfold tk
        rw [if_pos (by have := HL.out; omega)]
      have HR := Lib.hid hres
      clear hres
      go_wp2_with fail
      go_ret2
      unfold tkAt tkRow
      rw [HR.out]
      exact ⟨_, rfl, World.ownsRow_nil _ _ _ _, Below.refl _ _⟩

theorem rEqual_drew (A B : Option Addr) (c d n m : Nat) (xs ys : List UInt8) (w : World) (q : Nat) (ok ok' : Nat → Prop) (h : RowV Kn.byte (w.drewN q) ok A xs) (h' : RowV Kn.byte (w.drewN q) ok' B ys) (hn : xs.length = n) (hm : ys.length = m) :
    Calls Tryz.prog 10 #[.slice A n c, .slice B m d] (w.drewN q) fun e w' => e = .returned (.bool (decide (xs = ys))) ∧ ∃ n, w' = w.drewN n :=
  (rEqual_any A B c d n m xs ys _ ok ok' h h' hn hm).mono fun e w' ⟨h1, k, h2⟩ => ⟨h1, q + k, by rw [h2, World.drewN_drewN]⟩

set_option maxHeartbeats 400000 in
theorem Rows_any (A B : Option Addr) (c d n m : Nat) (xs ys : List (List UInt8)) (w : World) (ok ok' : Nat → Prop) (h : RowV (Kn.sl Kn.byte) w ok A xs) (h' : RowV (Kn.sl Kn.byte) w ok' B ys) (hn : xs.length = n) (hm : ys.length = m) :
    Calls Tryz.prog 27 #[.slice A n c, .slice B m d] w fun e w' => e = .returned (.bool (decide (xs = ys))) ∧ ∃ n, w' = w.drewN n := by
  have hl := h.1
  rw [hn] at hl
  have HN := Lib.hid hn
  have HM := Lib.hid hm
  clear hn hm
  by_cases hlen : n = m
  · subst hlen
    have hne : (((n : Nat) : Int) != ((n : Nat) : Int)) = false := by simp
    go_enter Tryz.func27, Tryz.ntmps27
    go_wp2_with fail
    go_loopw [5] (fun i wr => ∃ k : Nat, k ≤ n ∧ i = .int .i64 k ∧ Hid (xs.take k = ys.take k) ∧ ∃ q, wr = w.drewN q) (fun i _ => n - (intOf i).toNat)
    case atStart => exact ⟨0, Nat.zero_le _, rfl, rfl, 0, rfl⟩
    case round =>
      obtain ⟨k, hk, rfl, HE, q, rfl⟩ := hrel
      by_cases hlt : k < n
      · have hd := hd_lt_t hlt
        obtain ⟨ad, s, A2, ca, rfl, ho, I1, hc, s1, s2, s3⟩ := row_rows_get h (k := k) (by have := HN.out; omega)
        obtain ⟨bd, t, B2, cb, rfl, ho', I2, hc', t1, t2, t3⟩ := row_rows_get h' (k := k) (by have := HM.out; omega)
        obtain ⟨n1, hn1⟩ : ∃ n1, s.length = n1 := ⟨_, rfl⟩
        obtain ⟨n2, hn2⟩ : ∃ n2, t.length = n2 := ⟨_, rfl⟩
        rw [hn1] at hc
        rw [hn2] at hc'
        have HN1 := Lib.hid hn1
        have HN2 := Lib.hid hn2
        have S3 := Lib.hid s3
        have T3 := Lib.hid t3
        have i0 : (0 : Int) ≤ (k : Int) := by omega
        have i1 : (k : Int) < (n : Int) := by omega
        obtain ⟨wq, hwq⟩ : ∃ wq, wq = w.drewN q := ⟨_, rfl⟩
        rw [← hwq]
        replace hc : wq.cell? (ad.add k) = some (.slice A2 n1 ca) := by rw [hwq]; exact hc
        replace hc' : wq.cell? (bd.add k) = some (.slice B2 n2 cb) := by rw [hwq]; exact hc'
        have hcall : ∀ q2, Calls Tryz.prog 10 #[.slice A2 n1 ca, .slice B2 n2 cb] (wq.drewN q2) fun e w' => e = .returned (.bool (decide (s = t))) ∧ ∃ n, w' = wq.drewN n :=
          fun q2 => rEqual_drew A2 B2 ca cb n1 n2 s t wq q2 ok ok' (S3.out.move fun b hb _ => ⟨hb, by rw [hwq]; rfl⟩) (T3.out.move fun b hb _ => ⟨hb, by rw [hwq]; rfl⟩) HN1.out HN2.out
        have HWQ := Lib.hid hwq
        clear hwq hn1 hn2 s1 t1 ho ho' s3 t3
        by_cases he : s = t
        · rw [decide_eq_true he] at hcall
          go_wp2_with fail
          go_quiet (first | (go_at_call 10; with_reducible exact hcall _))
          go_wp2_with fail
          go_roundw
          case measure => simp [intOf]; omega
          case rel =>
            refine ⟨k + 1, by omega, by go_num, ?_, _, by rw [HWQ.out, World.drewN_drewN]⟩
            show _ = _
            rw [take_snoc I1.out, take_snoc I2.out, HE.out, he]
        · rw [decide_eq_false he] at hcall
          go_wp2_with fail
          go_quiet (first | (go_at_call 10; with_reducible exact hcall _))
          go_wp2_with fail
          go_ret
          refine ⟨?_, _, by rw [HWQ.out, World.drewN_drewN]⟩
          rw [decide_eq_false (p := xs = ys) (by
            rintro rfl
            exact he (Option.some.inj (I1.out.symm.trans I2.out)))]
          rfl
      · go_wp2_with fail
        go_ret
        obtain rfl : k = n := by omega
        refine ⟨?_, _, rfl⟩
        have := HE.out
        rw [List.take_of_length_le (by have := HN.out; omega), List.take_of_length_le (by have := HM.out; omega)] at this
        rw [decide_eq_true this]; rfl
  · have hd : decide (xs = ys) = false := decide_eq_false (fun e => hlen (by have := HN.out; have := HM.out; rw [e] at *; omega))
    rw [hd]
    clear hd
    have hne : (((n : Nat) : Int) != ((m : Nat) : Int)) = true := by rw [bne_iff_ne]; omega
    go_enter Tryz.func27, Tryz.ntmps27
    go_wp2_with fail
    go_ret
    exact ⟨rfl, 0, rfl⟩
end Go.Proofs.YtkenmpggblefiaaGreatDoor
