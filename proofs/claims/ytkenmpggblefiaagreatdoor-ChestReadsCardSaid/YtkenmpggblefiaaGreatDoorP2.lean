/- Plain: the reference's digest is the program's. -/
import Derived.Test.YtkenmpggblefiaaGreatDoorR2
namespace Go.Proofs.YtkenmpggblefiaaGreatDoor
open Go.RowKit

/-- the state behind k blocks -/
def stAt (p : List UInt8) : Nat → List Int
  | 0 => hSha
  | k + 1 => work (stAt p k) kSha ((p.drop (64 * k)).take 64)
theorem stAt_length (p : List UInt8) : ∀ k, (stAt p k).length = 8
  | 0 => rfl
  | k + 1 => by rw [stAt, work_length, stAt_length p k]
theorem stAt_rng (p : List UInt8) : ∀ k, Rng (stAt p k)
  | 0 => Rng_hSha
  | k + 1 => Rng.addUp (stAt_rng p k) 8
theorem lay_zero (wt cs : List UInt8) (h1 : wt.length = 64) (h2 : cs.length = 64) : lay wt 0 cs = cs := by
  simp [lay, h2, List.drop_eq_nil_of_le, h1]
theorem feeds_blocks (p : List UInt8) : ∀ k, 64 * k ≤ p.length → ∃ wt : List UInt8, hs0.feeds kSha (p.take (64 * k)) = ⟨stAt p k, wt, 0⟩ ∧ wt.length = 64
  | 0, _ => ⟨List.replicate 64 0, rfl, rfl⟩
  | k + 1, h => by
    obtain ⟨wt, e, hw⟩ := feeds_blocks p k (by omega)
    have hl : ((p.drop (64 * k)).take 64).length = 64 := by simp; omega
    refine ⟨(p.drop (64 * k)).take 64, ?_, hl⟩
    rw [show 64 * (k + 1) = 64 * k + 64 by omega, List.take_add, HS.feeds_append, e, HS.feeds_full kSha ⟨stAt p k, wt, 0⟩ ⟨stAt_length p k, hw, by simp⟩ _ (by simpa using hl)]
    simp only [lay_zero _ _ hw hl]
    rfl
theorem feed_many (ks : List Int) (h : HS) (hm : h.many < 64) (b : UInt8) : (h.feed ks b).many = (h.many + 1) % 64 := by
  unfold HS.feed
  split
  · simp only; omega
  · simp only; omega
theorem feeds_many (ks : List Int) : ∀ (xs : List UInt8) (h : HS), h.many < 64 → (h.feeds ks xs).many = (h.many + xs.length) % 64
  | [], h, hm => by rw [HS.feeds_nil]; simp; omega
  | b :: bs, h, hm => by
    show ((h.feed ks b).feeds ks bs).many = _
    have e := feed_many ks h hm b
    rw [feeds_many ks bs _ (by omega), e]
    simp only [List.length_cons]
    omega
theorem padOf_length (xs : List UInt8) : (padOf xs).length % 64 = 0 := by
  simp [padOf, beB_length]
  omega
/-- the reference's digest, block by block -/
def refOf (xs : List UInt8) : List UInt8 := flat32 (stAt (padOf xs) ((padOf xs).length / 64))
theorem refOf_eq (xs : List UInt8) (h : xs.length < 1152921504606846976) : refOf xs = shaOf xs := by
  have hp := padOf_length xs
  obtain ⟨wt, e, _⟩ := feeds_blocks (padOf xs) ((padOf xs).length / 64) (by omega)
  rw [List.take_of_length_le (by omega)] at e
  have hm : (hs0.feeds kSha xs).many = xs.length % 64 := by rw [feeds_many _ _ _ (by decide)]; simp [hs0]
  have e2 : xs ++ (shaPad (xs.length % 64) ++ beB (8 * xs.length) 8) = padOf xs := by rw [padOf, shaPad]
  have e3 : 8 * xs.length % 18446744073709551616 = 8 * xs.length := Nat.mod_eq_of_lt (by omega)
  unfold refOf shaOf sumOf
  rw [hm, e3, ← HS.feeds_append, ← HS.feeds_append, e2, e]

set_option maxHeartbeats 400000 in
theorem rOf_any (A : Option Addr) (c n : Nat) (xs : List UInt8) (w : World) (h : HasB w A n xs) (hx : n < 100000000000000) :
    Calls Tryz.prog 28 #[.slice A n c] w fun e w' => NewB w w' e (shaOf xs) := by
  have H := Lib.hid h
  have HL := Lib.hid h.len
  clear h
  go_enter Tryz.func28, Tryz.ntmps28
  go_wp2_with fail
  refine (Pad_any A c n xs _ H.out hx).mono ?_
  intro e w1 h1
  have hpl := padOf_length xs
  obtain ⟨m, hm⟩ : ∃ m, (padOf xs).length = 64 * m := ⟨(padOf xs).length / 64, by omega⟩
  have hml : 64 * m ≤ n + 200 := by
    have e1 := hm
    have e2 := HL.out
    simp only [padOf, List.length_append, List.length_cons, List.length_replicate, beB_length] at e1
    omega
  obtain ⟨L, hL⟩ : ∃ L, L = 64 * m := ⟨_, rfl⟩
  rw [← hL] at hm hml
  have HLm := Lib.hid hL
  clear hL
  obtain ⟨P, cp, rfl, hP, hb1⟩ := h1.out _ hm
  have HP := Lib.hid hP
  have HB1 := Lib.hid hb1
  have HM := Lib.hid hm
  clear h1 hP hb1 hm hpl
  go_wp2_with fail
  refine (rH_any _).mono ?_
  rintro e w2 ⟨gh, rfl, hh, hb2⟩
  have HP2 := Lib.hid (HP.out.kept hb2)
  have HH := Lib.hid hh
  have HB2 := Lib.hid (below_next HB1.out hb2)
  clear hb2 hh
  go_wp2_with fail
  refine (rK_any _).mono ?_
  rintro e w3 ⟨gk, rfl, hk, hb3⟩
  have HP3 := Lib.hid (HP2.out.kept hb3)
  have HH3 := Lib.hid (HH.out.step hb3)
  have HK := Lib.hid hk
  have HB3 := Lib.hid (below_next HB2.out hb3)
  clear hb3 hk
  go_wp2_with fail
  go_loopw [4, 6] (fun s i wr => ∃ (k g j : Nat), k ≤ m ∧ i = .int .i64 j ∧ Hid (j = 64 * k) ∧ s = .slice (some ⟨g, 0, none⟩) 8 8 ∧ Row32 wr g (stAt (padOf xs) k) ∧ Row32 wr gk kSha ∧ OwnB wr w.heap.size P L cp (padOf xs) ∧ Below w.heap.size w wr) (fun _ i _ => L - (intOf i).toNat)
  case atStart => exact ⟨0, gh, 0, by omega, rfl, rfl, rfl, HH3.out, HK.out, HP3.out, HB3.out⟩
  case round =>
    clear HP HP2 HP3 HH HH3 HK HB1 HB2 HB3
    obtain ⟨k, g, j, hk, rfl, HJ, rfl, hs, hkk, hp, hb⟩ := hrel
    have HS := Lib.hid hs
    have HK := Lib.hid hkk
    have HP := Lib.hid hp
    have HB := Lib.hid hb
    clear hs hkk hp hb
    by_cases hlt : k < m
    · have hj64 : j + 64 ≤ L := by have := HJ.out; have := HLm.out; omega
      have hd : decide ((j : Int) < (L : Int)) = true := by simp; omega
      have hle := HP.out.le
      obtain ⟨ad, rfl⟩ := HP.out.some_ (by omega)
      have hrow : RowV Kn.byte wr (old wr) (some (ad.add j)) (((padOf xs).drop (64 * k)).take 64) := by
        have := (HP.out.old.drop_at (k := 64 * k) (by have := HM.out; have := HJ.out; omega)).take 64
        rw [← HJ.out] at this
        rw [← HJ.out]
        simpa [Kn.byte, Kn.scalar] using this
      have HR := Lib.hid hrow
      have HRL : Hid ((((padOf xs).drop (64 * k)).take 64).length = 64) := by show _ = _; have := HM.out; have := HJ.out; simp; omega
      clear hrow
      have hne : ¬ cp = j := by omega
      go_wp2_with fail
      refine (rWork_any g gk _ (cp - j) _ (stAt (padOf xs) k) kSha _ HS.out HK.out HR.out (stAt_length _ _) kSha_length HRL.out (by omega)).mono ?_
      rintro e w' ⟨g', rfl, hs', hb'⟩
      go_wp2_with fail
      go_roundw
      case measure => simp [intOf]; omega
      case rel => exact ⟨k + 1, g', j + 64, by omega, by go_num, (by have := HJ.out; show _ = _; omega), rfl, hs', HK.out.step hb', HP.out.kept hb', below_next HB.out hb'⟩
    · obtain rfl : k = m := by omega
      have hj64 : L ≤ j := by have := HJ.out; have := HLm.out; omega
      have hd : decide ((j : Int) < (L : Int)) = false := by simp; omega
      have HST : Hid (stAt (padOf xs) k = stAt (padOf xs) ((padOf xs).length / 64)) := by
        show _ = _
        rw [HM.out, HLm.out]
        congr 1
        omega
      have hl := stAt_length (padOf xs) k
      have hr := stAt_rng (padOf xs) k
      generalize hst : stAt (padOf xs) k = st at *
      have HL8 := Lib.hid hl
      have HRG := Lib.hid hr
      clear hl hr hst
      go_wp2_with fail
      generalize decide (j < L) = bq
      go_loopw [7, 8] (fun v i wq => ∃ k : Nat, k ≤ 8 ∧ i = .int .i64 k ∧ wq.ownsRow w.heap.size 5 1 v (4 * k) (bts (flat32 (st.take k))) ∧ Row32 wq g st ∧ Below w.heap.size w wq) (fun _ i _ => 8 - (intOf i).toNat)
      case atStart => exact ⟨0, by omega, rfl, World.ownsRow_nil _ _ _ _, HS.out, HB.out⟩
      case round =>
        clear HS HK HP HB hd hj64
        obtain ⟨q, hq, rfl, hown, hs, hb⟩ := hrel
        obtain ⟨Av, cv, rfl, hv⟩ := ownB_of hown
        by_cases hlt : q < 8
        · have hd : decide ((q : Int) < 8) = true := by simp; omega
          have hc := word_cell hs (i := q) (by rw [HL8.out]; exact hlt)
          have hr1 := (HRG.out q).1
          have hr2 := (HRG.out q).2
          have hb0 : (0 : Int) ≤ (q : Int) := by omega
          have HV := Lib.hid hv
          have HB := Lib.hid hb
          have HS := Lib.hid hs
          clear hown hv hb hs
          go_wp2_with fail
          rw [show wd st q = (((wd st q).toNat : Nat) : Int) by omega]
          refine (Little_new (wd st q).toNat 4 _ (by omega) (by omega)).mono ?_
          rintro e w4 ⟨A4, c4, rfl, h4, hb4⟩
          have HO4 := Lib.hid h4
          have HB4 := Lib.hid (below_next HB.out hb4)
          have HV4 := Lib.hid (HV.out.kept hb4)
          have HS4 := Lib.hid (HS.out.step hb4)
          clear h4 hb4
          go_wp2_with fail
          refine (Back_new A4 c4 4 _ _ HO4.out.has (by omega)).mono ?_
          rintro e w5 ⟨A5, c5, rfl, h5, hb5⟩
          have HO5 := Lib.hid h5
          have HB5 := Lib.hid (below_next HB4.out hb5)
          have HV5 := Lib.hid (HV4.out.kept hb5)
          have HS5 := Lib.hid (HS4.out.step hb5)
          clear h5 hb5 hc hr1 hr2
          go_wp2_with (with_reducible change wpList _ _ _ ({ dst := some 39, op := _, type := _, pos := _, after := _, guard := _ } :: _) _ _; go_must (refine wpList_cat rfl (.tmp 31) (.tmp 38) 33 rfl w.heap.size Tryz.underlying33 Tryz.info5 (HV5.out.own) rfl (HB5.out) c5 rfl (HO5.out.has) (by omega) (HB5.out).size ?_)
                       rintro v6 w6 hown6 hb6 hg6 _)

          go_roundw
          case measure => simp [intOf]; omega
          case rel =>
            refine ⟨q + 1, by omega, by go_num, ?_, ?_, hb6⟩
            · rw [leB_reverse, ← flat32_snoc] at hown6
              have : wd st q = st[q]'(by rw [HL8.out]; exact hlt) := by simp [wd, List.getElem?_eq_getElem (show q < st.length by rw [HL8.out]; exact hlt)]
              rw [List.take_succ_eq_append_getElem (by rw [HL8.out]; exact hlt), ← this, show 4 * (q + 1) = 4 * q + 4 by omega]
              exact hown6
            · exact HS5.out.grown hg6 (own_blk_ne HV5.out.own HS5.out (by decide)).symm
        · obtain rfl : q = 8 := by omega
          have hd : decide (((8 : Nat) : Int) < 8) = false := by simp
          rw [show ((8 : Nat) : Int) = 8 from rfl]
          go_wp2_with fail
          go_ret
          refine ⟨_, rfl, ?_, hb⟩
          have h9 := hv.own
          rw [List.take_of_length_le (by rw [HL8.out]; omega)] at h9
          rw [shaOf_length, ← refOf_eq xs (by have := HL.out; omega), refOf, ← HST.out]
          exact h9
end Go.Proofs.YtkenmpggblefiaaGreatDoor
