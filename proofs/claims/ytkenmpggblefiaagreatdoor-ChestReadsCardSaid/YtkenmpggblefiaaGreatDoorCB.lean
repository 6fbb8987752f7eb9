/- The walk of the reference's reading of chests. -/
import Derived.Test.YtkenmpggblefiaaGreatDoorCA
namespace Go.Proofs.YtkenmpggblefiaaGreatDoor
open Go.RowKit
attribute [local go_sem ↓] Go.wp_at_zero Go.wp_at_succ

theorem okB_okT {B : Nat} {w : World} {T : List TypeId} (hT : 5 ∈ T) {b : Nat} (h : okB (fun b => B ≤ b) w b) : okT B T w b := by
  obtain ⟨h1, cs, h2⟩ := h
  exact ⟨h1, _, cs, hT, h2⟩
theorem okT.base {B B' : Nat} {T : List TypeId} {w : World} {b : Nat} (h : okT B' T w b) (hB : B ≤ B') : okT B T w b := ⟨Nat.le_trans hB h.1, h.2⟩
theorem OwnB.slT {w : World} {B B' : Nat} {T : List TypeId} (hT : 5 ∈ T) {A : Option Addr} {n c : Nat} {ys : List UInt8} (h : OwnB w B' A n c ys) (hB : B ≤ B') : SlV Kn.byte w (okT B T w) (.slice A n c) ys := by
  have hl := h.len
  subst hl
  exact ⟨A, c, rfl, h.le, h.cap, h.okB.mono fun b hb _ => (okB_okT hT hb).base hB⟩
theorem GrowV.form {α : Type} {d : Kn α} {w : World} {B : Nat} {e : TypeId} {T : List TypeId} {v : Value} {xs : List α} (h : GrowV d w B e T v xs) : ∃ A c, v = .slice A xs.length c := by
  obtain ⟨cs, ho, _⟩ := h
  exact own_form ho
/-- what the reference's FromBytes leaves -/
def RFromPost (G : Nat → Prop) (r : Nat) (vb : Value) (s : Cr) (xs : List UInt8) (w : World) (e : Ending) (w' : World) : Prop :=
  ∃ v B G', e = .returned (.tuple #[v, .int .i64 ((fromOf s xs).1 : Int)]) ∧ w.heap.size ≤ B ∧ SlV kChest w' (okT B [49, 33, 5] w') v (fromOf s xs).2 ∧ RefAt G' w' r vb (fromNext s xs) ∧ Chg G w w' ∧ (∀ b, G' b → G b ∨ (w.heap.size ≤ b ∧ b < B))

set_option maxHeartbeats 2000000 in
set_option maxRecDepth 100000 in
theorem rFrom_any (G ok : Nat → Prop) (r : Nat) (vb : Value) (s : Cr) (A : Option Addr) (c n : Nat) (xs : List UInt8) (w : World) (h : RowV Kn.byte w ok A xs) (hn : xs.length = n) (hnc : n ≤ c) (hok : ∀ b, ok b → ¬ G b) (hnb : n < 1000000000) (hr : RefAt G w r vb s) (hm : s.many < 1000000000) :
    Calls Tryz.prog 14 #[.pointer (some ⟨r, 0, none⟩), .slice A n c] w fun e w' => RFromPost G r vb s xs w e w' := by
  have H := Lib.hid h
  have HN := Lib.hid hn
  have HR := Lib.hid hr
  clear h hn hr
  by_cases h40 : n < 40
  · have hd : decide ((n : Int) < 40) = true := by simp; omega
    have hb : headBad xs = true := by
      unfold headBad
      rw [HN.out]
      simp [h40]
    have HB := Lib.hid hb
    clear hb
    go_enter Tryz.func14, Tryz.ntmps14
    go_wp2_with fail
    go_ret2
    unfold RFromPost fromOf fromNext
    rw [if_pos HB.out, if_pos HB.out]
    exact ⟨_, w.heap.size, G, rfl, Nat.le_refl _, SlV.nil, HR.out, Chg.refl _ _, fun b hb => .inl hb⟩
  · have hd : decide ((n : Int) < 40) = false := by simp; omega
    obtain ⟨ad, rfl⟩ : ∃ ad, A = some ad := by
      obtain ⟨ad, e, _⟩ := H.out.2 (by rw [HN.out]; omega)
      exact ⟨ad, e⟩
    obtain ⟨nb, rfl⟩ : ∃ nb, n = nb + 32 := ⟨n - 32, by omega⟩
    have hcv : (convert 33 9 (.slice (some ad) 4 c)).run Tryz.prog w = .ok (.string (bs (xs.take 4))) w :=
      run_bytes_string (ok := ok) (H.out.take 4) (by rw [List.length_take, HN.out]; omega) Tryz.underlying33 Tryz.underlying5 Tryz.underlying9
    generalize ht4 : xs.take 4 = t4 at hcv
    have HT4 := Lib.hid ht4
    have i4 : (4 : Int) ≤ (c : Int) := by omega
    have i5 : (nb : Int) ≤ (c : Int) := by omega
    have i6 : (0 : Int) ≤ (nb : Int) := by omega
    have e32 : IntKind.i64.wrap ((nb : Int) + 32 - 32) = (nb : Int) := by rw [IntWalk.i64_in _ (by omega)]; omega
    have e33 : IntKind.i64.wrap (((nb + 32 : Nat) : Int) - 32) = (nb : Int) := by rw [IntWalk.i64_in _ (by omega)]; omega
    have e34 : IntKind.i64.wrap (nb : Int) = (nb : Int) := IntWalk.i64_in _ (by omega)
    have hd1 : decide ((nb : Int) + 32 < 40) = false := by simp; omega
    have i7 : (nb : Int) ≤ (nb : Int) + 32 := by omega
    have i8 : (nb : Int) + 32 ≤ (c : Int) := by omega
    clear ht4 hd
    by_cases hmark : t4 = [79, 67, 72, 49]
    · have hmk : ((bs t4).toList == [79, 67, 72, 49]) = true := by rw [bs_toList, hmark]; rfl
      have hb : ¬ headBad xs = true := by
        unfold headBad
        rw [HN.out, HT4.out, hmark]
        simp
        omega
      have HB := Lib.hid hb
      have HMK := Lib.hid hmark
      obtain ⟨bd, hbd⟩ : ∃ bd, xs.take nb = bd := ⟨_, rfl⟩
      obtain ⟨sm, hsm⟩ : ∃ sm, xs.drop nb = sm := ⟨_, rfl⟩
      have hbl : bd.length = nb := by rw [← hbd, List.length_take, HN.out]; omega
      have hsl : sm.length = 32 := by rw [← hsm, List.length_drop, HN.out]; omega
      have hrb : RowV Kn.byte w ok (some ad) bd := hbd ▸ H.out.take nb
      have hrs : RowV Kn.byte w ok (some (ad.add nb)) sm := by
        have := H.out.drop_at (k := nb) (by rw [HN.out]; omega)
        rwa [show nb * Kn.byte.sz = nb from Nat.mul_one nb, hsm] at this
      have hcb : ¬ c = nb := by omega
      have HBD := Lib.hid hbd
      have HSM := Lib.hid hsm
      have HBL := Lib.hid hbl
      have HSL := Lib.hid hsl
      have HRB := Lib.hid hrb
      have HRS := Lib.hid hrs
      clear hb hmark hbd hsm hbl hsl hrb hrs
      go_enter Tryz.func14, Tryz.ntmps14
      go_wp2_with fail
      by_cases hdig : s.dig bd = sm
      · go_region_held3 (fun _ => True) (exact True.intro) (first
          | (go_at_call 13
             with_reducible change Calls _ _ #[_, Value.slice _ nb c] _ _
             refine (rSum_any G r vb s (some ad) c nb bd w.drew ⟨HBL.out, HRB.out.move fun b _ hlt => ⟨hlt, rfl⟩⟩ (HR.out.below ((Below.refl _ _).drew)) (by omega) (by omega)).mono ?_
             rintro e w3 ⟨x, B3, G3, rfl, hB3, hx, hr3, hc3, hv3⟩
             obtain ⟨A3, c3, rfl, h3⟩ := ownB_of hx
             have hc3' : Chg G w w3 := ((Chg.of_below ((Below.refl w.heap.size w).drew) G)).trans hc3 (fun _ _ h => h)
             have HX3 := Lib.hid h3
             have HR3 := Lib.hid hr3
             have HC3 := Lib.hid hc3'
             have HV3 := Lib.hid hv3
             have HB3 := Lib.hid hB3
             clear hx h3 hr3 hc3 hc3' hv3 hB3)
          | (go_at_call 10
             with_reducible change Calls _ _ #[Value.slice A3 _ _, _] _ _
             refine (rEqual_any A3 (some (ad.add nb)) c3 _ 32 32 (s.dig bd) sm w3 _ _ HX3.out.row (HRS.out.keep HC3.out (fun b _ hb => hok b hb)) HX3.out.len HSL.out).mono ?_
             rintro e w4 ⟨rfl, q4, rfl⟩
             rw [decide_eq_true hdig])
          | fail)
        obtain ⟨w4, hw4⟩ : ∃ w4, w4 = w3.drewN q4 := ⟨_, rfl⟩
        rw [← hw4]
        have hc4 : Chg (fun _ => False) w3 w4 := by rw [hw4]; exact chg_drewN _ _ _
        have hC4 : Chg G w w4 := HC3.out.trans hc4 (fun _ _ h => h.elim)
        have hs34 : w4.heap.size = w3.heap.size := by rw [hw4]; rfl
        have HBB := Lib.hid (show HasB w4 (some ad) nb bd from ⟨HBL.out, HRB.out.chg hC4 fun b hlt hb => ⟨by have := hC4.size; show b < _; omega, hok b hb⟩⟩)
        have HR4 := Lib.hid (HR3.out.chg hc4 (fun _ _ _ h => h))
        have HC4 := Lib.hid hC4
        have HGB : Hid (∀ b, G3 b → G b ∨ (w.heap.size ≤ b ∧ b < w4.heap.size)) := by
          intro b hb
          rw [hs34]
          rcases HV3.out b hb with h | h
          · exact .inl h
          · have h8 : B3 ≤ w3.heap.size := by
              obtain ⟨ad3, rfl⟩ := HX3.out.some_ (by omega)
              obtain ⟨_, e9, h8, h7, _⟩ := HX3.out.row.2 (by rw [HX3.out.len]; omega)
              have := h8.1
              omega
            exact .inr ⟨h.1, by omega⟩
        have hdg : fromNext s xs = s.next bd := by
          unfold fromNext
          rw [if_neg HB.out, HN.out, Nat.add_sub_cancel, HBD.out]
        have HNX := Lib.hid hdg
        have hfr : fromOf s xs = match parse bd with | none => (8, []) | some l => (0, l) := by
          unfold fromOf
          rw [if_neg HB.out, HN.out, Nat.add_sub_cancel, HBD.out, HSM.out, if_neg (fun h => h hdig)]
          cases parse bd <;> rfl
        have HFR := Lib.hid hfr
        have HDG := Lib.hid hdig
        have hr4 : RowV Kn.byte w4 (old w4) (some ⟨ad.block, ad.off + 4, none⟩) (bd.drop 4) := HBB.out.row.drop_at (k := 4) (by rw [HBL.out]; omega)
        have HRW := Lib.hid hr4
        obtain ⟨m, hmm⟩ : ∃ m, gB (bd.drop 4) 4 = m := ⟨_, rfl⟩
        have hm32 : m < 4294967296 := by rw [← hmm]; exact gB_lt _ 4
        have em : IntKind.i64.wrap (m : Int) = (m : Int) := IntWalk.i64_in _ (by omega)
        have HMM := Lib.hid hmm
        have h40' : 8 ≤ nb := by omega
        have i9 : (4 : Int) ≤ (nb : Int) := by omega
        clear hw4 hc4 hC4 hs34 hdg hfr hdig hr4 hmm HR3 HC3 HV3 HX3 HB3 HRS HRB H HR hcv hmk h40
        go_wp2_with fail
        refine (rGetBig_any _ _ _ (bd.drop 4) 4 w4 _ HRW.out (by rw [List.length_drop, HBL.out]) (by omega)).mono ?_
        rintro e w5 ⟨rfl, rfl⟩
        rw [HMM.out]
        by_cases hbig : 1024 < m
        · have hd2 : decide (1024 < (m : Int)) = true := by simp; omega
          have hp : parse bd = none := by
            unfold parse
            rw [HMM.out, if_pos hbig]
          have HP := Lib.hid hp
          clear hp
          go_wp2_with fail
          go_ret2
          unfold RFromPost
          rw [HFR.out, HP.out, HNX.out]
          exact ⟨_, w4.heap.size, G3, rfl, HC4.out.size, SlV.nil, HR4.out, HC4.out, HGB.out⟩
        · have hd2 : decide (1024 < (m : Int)) = false := by simp; omega
          have hpp : parse bd = (chs bd 8 m).bind fun s => if s.2 = bd.length then some s.1 else none := by
            unfold parse
            rw [HMM.out, if_neg (by omega)]
          have HPP := Lib.hid hpp
          clear hpp
          go_wp2_with fail
          go_loopw [8, 9, 10, 11, 12, 13, 14, 15, 16, 17, 18, 19] (fun v q i _ _ _ _ _ _ _ _ _ wr => ∃ k z l', k ≤ m ∧ i = .int .i64 (k : Nat) ∧ q = .int .i64 (z : Nat) ∧ z ≤ nb ∧ Hid (chs bd 8 k = some (l', z)) ∧ GrowV kChest wr w4.heap.size 49 [33, 5] v l' ∧ Below w4.heap.size w4 wr) (fun _ _ i _ _ _ _ _ _ _ _ _ _ => m - (intOf i).toNat)
          case atStart => exact ⟨0, 8, [], by omega, rfl, rfl, h40', rfl, GrowV.nil .., Below.refl _ _⟩
          case round =>
            obtain ⟨k, z, l', hk, rfl, rfl, hz, HCH, hgv, hb⟩ := hrel
            have HGV := Lib.hid hgv
            have HBE := Lib.hid hb
            clear hgv hb
            by_cases hlt : k < m
            · have hd3 := hd_lt_t hlt
              go_wp2_with fail
              refine (take_any (some ad) c nb bd (some z) wr (HBB.out.kept HBE.out) (by omega) (by omega) (by rintro p ⟨⟩; exact hz)).mono ?_
              rintro e w6 ⟨v6, rfl, ho6, hb6⟩
              obtain ⟨o1, ho1⟩ : ∃ o1, tkAt bd (some z) = o1 := ⟨_, rfl⟩
              obtain ⟨t1, ht1⟩ : ∃ t1, tkRow bd (some z) = t1 := ⟨_, rfl⟩
              obtain ⟨n1, hn1⟩ : ∃ n1, t1.length = n1 := ⟨_, rfl⟩
              rw [ho1]
              rw [ht1, hn1] at ho6
              obtain ⟨A6, c6, rfl, h6⟩ := ownB_of ho6
              have hle1 : ∀ p, o1 = some p → p ≤ nb := by
                rintro p rfl
                have := tkAt_le ho1
                rw [HBL.out] at this
                exact this
              have hn1b : n1 ≤ nb := by
                have := tkRow_le bd (some z)
                rw [ht1, hn1, HBL.out] at this
                exact this
              have HO1 := Lib.hid ho1
              have HT1 := Lib.hid ht1
              have HN1 := Lib.hid hn1
              have HO6 := Lib.hid h6
              have HBE6 := Lib.hid (below_step HBE.out HBE.out.size hb6)
              have HGV6 := Lib.hid (HGV.out.below hb6)
              clear ho1 ht1 hn1 ho6 h6 hb6
              go_wp2_with fail
              refine (take_any (some ad) c nb bd o1 w6 (HBB.out.kept HBE6.out) (by omega) (by omega) hle1).mono ?_
              rintro e w7 ⟨v7, rfl, ho7, hb7⟩
              obtain ⟨o2, ho2⟩ : ∃ o2, tkAt bd o1 = o2 := ⟨_, rfl⟩
              obtain ⟨t2, ht2⟩ : ∃ t2, tkRow bd o1 = t2 := ⟨_, rfl⟩
              obtain ⟨n2, hn2⟩ : ∃ n2, t2.length = n2 := ⟨_, rfl⟩
              rw [ho2]
              rw [ht2, hn2] at ho7
              obtain ⟨A7, c7, rfl, h7⟩ := ownB_of ho7
              have hn2b : n2 ≤ nb := by
                have := tkRow_le bd o1
                rw [ht2, hn2, HBL.out] at this
                exact this
              have HBE7 := Lib.hid (below_step HBE6.out HBE6.out.size hb7)
              have HGV7 := Lib.hid (HGV6.out.below hb7)
              have HO6' := Lib.hid (HO6.out.kept hb7)
              have HO7 := Lib.hid h7
              have hkn : tkChest bd z = none → fromOf s xs = (8, []) := by
                intro hc
                have h9 : chs bd 8 (k + 1) = none := by
                  rw [chs, HCH.out]
                  simp [hc]
                rw [HFR.out, HPP.out, chs_none h9 m (by omega)]
                rfl
              have hle2 : ∀ p, o2 = some p → p ≤ nb := by
                rintro p rfl
                have := tkAt_le ho2
                rw [HBL.out] at this
                exact this
              have HO2 := Lib.hid ho2
              have HT2 := Lib.hid ht2
              have HN2 := Lib.hid hn2
              clear ho2 ht2 hn2 ho7 h7 hb7 hle1
              rcases o2 with _ | ee
              · have hp := hkn (by unfold tkChest; rw [HO1.out, HO2.out])
                have HP := Lib.hid hp
                clear hp hkn
                rw [show atI none = -1 from rfl]
                go_wp2_with fail
                go_ret2
                unfold RFromPost
                rw [HP.out, HNX.out]
                exact ⟨_, w4.heap.size, G3, rfl, HC4.out.size, SlV.nil, HR4.out.below HBE7.out, HC4.out.trans (Chg.of_below HBE7.out (fun _ => False)) (fun _ _ h => h.elim), HGB.out⟩
              · rw [show atI (some ee) = (ee : Int) from rfl]
                have hee : ee ≤ nb := hle2 ee rfl
                have hd4 : decide ((ee : Int) < 0) = false := by simp
                by_cases hfit : ee + 4 ≤ nb
                · have hd5 : decide ((nb : Int) < (ee : Int) + 4) = false := by simp; omega
                  have hcv : ∀ W, Below w7.heap.size w7 W → (convert 33 9 (.slice A6 n1 c6)).run Tryz.prog W = .ok (.string (bs t1)) W := fun W hW =>
                    run_bytes_string (HO6'.out.kept hW).row HN1.out Tryz.underlying33 Tryz.underlying5 Tryz.underlying9
                  have hcv7 := hcv w7 (Below.refl _ _)
                  obtain ⟨mm, hmm⟩ : ∃ mm, gB (bd.drop ee) 4 = mm := ⟨_, rfl⟩
                  have hmm32 : mm < 4294967296 := by rw [← hmm]; exact gB_lt _ 4
                  have emm : IntKind.i64.wrap (mm : Int) = (mm : Int) := IntWalk.i64_in _ (by omega)
                  have HMM2 := Lib.hid hmm
                  obtain ⟨w8, hw8⟩ : ∃ w8, w8 = w7.alloc (.cells #[.string (bs t1), .slice A7 n2 c7, .slice none 0 0] 49) := ⟨_, rfl⟩
                  have hb8 : Below w7.heap.size w7 w8 := by rw [hw8]; exact below_new w7 _
                  have hx8 : Blk w8 w7.heap.size 49 #[.string (bs t1), .slice A7 n2 c7, .slice none 0 0] := by rw [hw8]; exact Blk.new w7 _ _
                  have HB8 := Lib.hid hb8
                  have HX8 := Lib.hid hx8
                  have HBE8 := Lib.hid (below_step HBE7.out HBE7.out.size hb8)
                  have hcee : ¬ c = ee := by omega
                  clear hmm hb8 hx8 hcv
                  go_wp2_with fail
                  rw [← hw8]
                  clear hw8
                  refine (rGetBig_any (some (ad.add ee)) (c - ee) (nb - ee) (bd.drop ee) 4 w8 _ ((HBB.out.kept HBE8.out).drop hee).row (by rw [List.length_drop, HBL.out]) (by omega)).mono ?_
                  rintro e w8' ⟨rfl, rfl⟩
                  rw [HMM2.out]
                  by_cases hgt : 64 < mm
                  · have hd6 : decide (64 < (mm : Int)) = true := by simp; omega
                    have hp := hkn (by
                      unfold tkChest
                      rw [HO1.out, HO2.out]
                      show (if ee + 4 > bd.length then none else if gB (bd.drop ee) 4 > 64 then none else _) = none
                      rw [HBL.out, HMM2.out, if_neg (by omega), if_pos hgt])
                    have HP := Lib.hid hp
                    clear hp hkn
                    go_wp2_with fail
                    go_ret2
                    unfold RFromPost
                    rw [HP.out, HNX.out]
                    exact ⟨_, w4.heap.size, G3, rfl, HC4.out.size, SlV.nil, HR4.out.below HBE8.out, HC4.out.trans (Chg.of_below HBE8.out (fun _ => False)) (fun _ _ h => h.elim), HGB.out⟩
                  · have hd6 : decide (64 < (mm : Int)) = false := by simp; omega
                    have hlys : tkChest bd z = (lys bd (ee + 4) mm).map fun s => (⟨t1, t2, s.1⟩, s.2) := by
                      unfold tkChest
                      rw [HO1.out, HO2.out, HT1.out, HT2.out]
                      show (if ee + 4 > bd.length then none else if gB (bd.drop ee) 4 > 64 then none else _) = _
                      rw [HBL.out, HMM2.out, if_neg (by omega), if_neg (by omega)]
                    have HLYS := Lib.hid hlys
                    have HKN := Lib.hid hkn
                    clear hlys hkn
                    have ew4 : IntKind.i64.wrap ((ee : Int) + 4) = (ee : Int) + 4 := IntWalk.i64_in _ (by omega)
                    go_wp2_with fail
                    go_loopw [9, 17, 18, 19] (fun q i _ _ wr => ∃ (j z2 : Nat) (ls : List (List UInt8)) (A9 : Option Addr) (c9 : Nat), j ≤ mm ∧ i = .int .i64 (j : Nat) ∧ q = .int .i64 (z2 : Nat) ∧ z2 ≤ nb ∧ Hid (lys bd (ee + 4) j = some (ls, z2)) ∧ GrowV (Kn.sl Kn.byte) wr w7.heap.size 33 [5] (.slice A9 j c9) ls ∧ Blk wr w7.heap.size 49 #[.string (bs t1), .slice A7 n2 c7, .slice A9 j c9] ∧ Below w7.heap.size w7 wr) (fun _ i _ _ _ => mm - (intOf i).toNat)
                    case atStart => exact ⟨0, ee + 4, [], none, 0, by omega, rfl, by go_num, hfit, rfl, GrowV.nil .., HX8.out, HB8.out⟩
                    case round =>
                      obtain ⟨j, z2, ls, A9, c9, hj, rfl, rfl, hz2, HLJ, hgl, hxl, hbl⟩ := hrel
                      have HGL := Lib.hid hgl
                      have HXL := Lib.hid hxl
                      have HBL2 := Lib.hid hbl
                      have HBE9 := Lib.hid (below_step HBE7.out HBE7.out.size hbl)
                      have hjl2 : ls.length = j := (lys_le (by rw [HBL.out]; exact hfit) HLJ.out).2
                      have HJL := Lib.hid hjl2
                      clear hgl hxl hbl hjl2
                      by_cases hjl : j < mm
                      · have hd7 := hd_lt_t hjl
                        go_wp2_with fail
                        refine (take_any (some ad) c nb bd (some z2) wr (HBB.out.kept HBE9.out) (by omega) (by omega) (by rintro p ⟨⟩; exact hz2)).mono ?_
                        rintro e w9 ⟨v9, rfl, ho9, hb9⟩
                        obtain ⟨o3, ho3⟩ : ∃ o3, tkO bd (some z2) = o3 := ⟨_, rfl⟩
                        have HB9 := Lib.hid hb9
                        have HBE10 := Lib.hid (below_step HBE9.out HBE9.out.size hb9)
                        have HBL10 := Lib.hid (below_step HBL2.out HBL2.out.size hb9)
                        rcases o3 with _ | ⟨t3, z3⟩
                        · have hat : tkAt bd (some z2) = none := by unfold tkAt; rw [ho3]; rfl
                          rw [hat]
                          have hp := HKN.out (by
                            have h9 : lys bd (ee + 4) (j + 1) = none := by
                              rw [lys, HLJ.out]
                              simp [ho3]
                            rw [HLYS.out, lys_none h9 mm (by omega)]
                            rfl)
                          have HP := Lib.hid hp
                          clear hp ho3 hat ho9 hb9
                          rw [show atI none = -1 from rfl]
                          go_wp2_with fail
                          go_ret2
                          unfold RFromPost
                          rw [HP.out, HNX.out]
                          exact ⟨_, w4.heap.size, G3, rfl, HC4.out.size, SlV.nil, HR4.out.below HBE10.out, HC4.out.trans (Chg.of_below HBE10.out (fun _ => False)) (fun _ _ h => h.elim), HGB.out⟩
                        · have hat : tkAt bd (some z2) = some z3 := by unfold tkAt; rw [ho3]; rfl
                          have hrw : tkRow bd (some z2) = t3 := by unfold tkRow; rw [ho3]; rfl
                          have hz3 : z3 ≤ nb := by
                            have := tkAt_le hat
                            rw [HBL.out] at this
                            exact this
                          rw [hat]
                          obtain ⟨n3, hn3⟩ : ∃ n3, t3.length = n3 := ⟨_, rfl⟩
                          rw [hrw, hn3] at ho9
                          obtain ⟨A10, c10, rfl, h10⟩ := ownB_of ho9
                          have hd8 : decide ((z3 : Int) < 0) = false := by simp
                          have hx9 := HXL.out.step hb9
                          have hk9 : w9.cell? ⟨w7.heap.size, 2, none⟩ = some (.slice A9 j c9) := hx9.cell 2
                          have HX9 := Lib.hid hx9
                          have HGL9 := Lib.hid (HGL.out.below hb9)
                          have HO10 := Lib.hid h10
                          have HO3 := Lib.hid ho3
                          have HN3 := Lib.hid hn3
                          clear ho3 hat hrw hn3 ho9 hb9 h10 hx9
                          rw [show atI (some z3) = (z3 : Int) from rfl]
                          have hbw9 := below_new w9 (.cells #[.slice A10 n3 c10] 33)
                          have HGW : Hid (GrowV (Kn.sl Kn.byte) (w9.alloc (.cells #[.slice A10 n3 c10] 33)) w7.heap.size 33 [5] (.slice A9 j c9) ls) := HGL9.out.below hbw9
                          have HKW : Hid ((Kn.sl Kn.byte).K (w9.alloc (.cells #[.slice A10 n3 c10] 33)) (okT w7.heap.size [5] (w9.alloc (.cells #[.slice A10 n3 c10] 33))) t3 [.slice A10 n3 c10]) :=
                            ⟨_, rfl, (HO10.out.kept hbw9).slT (by simp) HBL2.out.size⟩
                          have HXW := Lib.hid (HX9.out.step hbw9)
                          have HBW := Lib.hid (below_step HBL10.out HBL10.out.size hbw9)
                          have hbsz : w7.heap.size ≤ (w9.alloc (.cells #[.slice A10 n3 c10] 33)).heap.size := HBW.out.size
                          have hjj : ls.length + 1 ≤ 65 := by have := HJL.out; omega
                          clear hbw9
                          go_wp2_with (first
                            | (with_reducible change wpList _ _ _ ({ dst := some 106, op := _, type := _, pos := _, after := _, guard := _ } :: _) _ _
                               go_must (refine wpList_grow rfl (.tmp 103) (.tmp 105) 29 rfl w7.heap.size 33 (.slice none 0 0) 1 24 Tryz.underlying29 (by kernel_rfl) rfl (Kn.sl Kn.byte) rfl (by omega) [5] (by decide) (.slice A9 j c9) ls t3 [.slice A10 n3 c10] w9.heap.size (Blk.new w9 _ _) rfl rfl HGW.out HKW.out (by simp only [maxLen]; omega) (by omega) hbsz ?_)
                               intro v11 w11 hg11 hgr11 hbk11
                               obtain ⟨A11, c11, rfl⟩ := hg11.form
                               have hjj1 : (ls ++ [t3]).length = j + 1 := by rw [List.length_append, List.length_singleton, HJL.out]
                               rw [hjj1] at hg11
                               rw [hjj1]
                               have hx11 := Blk.grown HXW.out hgr11 (fun e => by
                                 obtain ⟨_, cur, hcur⟩ := hbk11 _ e.symm
                                 exact Blk.ne_ hcur HXW.out (by decide) rfl)
                               have hk11 : w11.cell? ⟨w7.heap.size, 2, none⟩ = some (.slice A9 j c9) := hx11.cell 2
                               have hf11 := hx11.frozen 2
                               have hlt11 : w7.heap.size < w11.heap.size := hx11.lt
                               have HX11 := Lib.hid hx11
                               have HG11 := Lib.hid hg11
                               have HB11 := Lib.hid (HBW.out.grown hgr11 HBW.out.size (fun b hb => (hbk11 b hb).1))
                               clear hx11 hg11 hgr11 hbk11 hjj1))
                          go_roundw
                          case measure => simp [intOf]; omega
                          case rel =>
                            have hset : Chg (fun i => i = w7.heap.size) w11 (w11.setCell ⟨w7.heap.size, 2, none⟩ (.slice A11 (j + 1) c11)) := chg_setCell (Chg.refl (fun i => i = w7.heap.size) w11) (.inl rfl) _
                            refine ⟨j + 1, z3, ls ++ [t3], A11, c11, by omega, by go_num, rfl, hz3, ?_, ?_, HX11.out.set_ 2 _, ?_⟩
                            · show _ = _
                              rw [lys, HLJ.out]
                              simp [HO3.out]
                            · exact HG11.out.chgT hset (fun i hi _ => ⟨_, _, by decide, hi ▸ HX11.out⟩)
                            · exact HB11.out.setCell (Nat.le_refl _) _
                      · have hd7 := hd_lt_f hjl
                        obtain rfl : j = mm := by omega
                        have hx0 : wr.cell? ⟨w7.heap.size, 0, none⟩ = some (.string (bs t1)) := HXL.out.cell 0
                        have hx1 : wr.cell? ⟨w7.heap.size, 1, none⟩ = some (.slice A7 n2 c7) := HXL.out.cell 1
                        have hx2 : wr.cell? ⟨w7.heap.size, 2, none⟩ = some (.slice A9 j c9) := HXL.out.cell 2
                        have hres : tkChest bd z = some (⟨t1, t2, ls⟩, z2) := by
                          rw [HLYS.out, HLJ.out]
                          rfl
                        have hll : l'.length = k := (chs_le (by rw [HBL.out]; exact h40') HCH.out).2
                        have hb12 := below_new wr (.cells #[.string (bs t1), .slice A7 n2 c7, .slice A9 j c9] 49)
                        have HGW : Hid (GrowV kChest (wr.alloc (.cells #[.string (bs t1), .slice A7 n2 c7, .slice A9 j c9] 49)) w4.heap.size 49 [33, 5] _ l') := (HGV7.out.below HBL2.out).below hb12
                        have HKW : Hid (kChest.K (wr.alloc (.cells #[.string (bs t1), .slice A7 n2 c7, .slice A9 j c9] 49)) (okT w4.heap.size [33, 5] (wr.alloc (.cells #[.string (bs t1), .slice A7 n2 c7, .slice A9 j c9] 49))) ⟨t1, t2, ls⟩ [.string (bs t1), .slice A7 n2 c7, .slice A9 j c9]) := by
                          refine ⟨_, _, rfl, ?_, ((HO7.out.kept HBL2.out).kept hb12).slT (by simp) HBE6.out.size, ?_⟩
                          · show t1.length ≤ maxLen
                            rw [HN1.out]
                            simp only [maxLen]
                            omega
                          · exact ((HGL.out.below hb12).slV (by decide)).mono fun b hb _ => hb.base HBE7.out.size
                        have HBW := Lib.hid (below_step HBE9.out HBE9.out.size hb12)
                        have hbsz : w4.heap.size ≤ (wr.alloc (.cells #[.string (bs t1), .slice A7 n2 c7, .slice A9 j c9] 49)).heap.size := HBW.out.size
                        have HRES := Lib.hid hres
                        have hll2 : l'.length + 1 ≤ 1025 := by omega
                        clear hres hb12 hll
                        go_wp2_with (first
                          | (with_reducible change wpList _ _ _ ({ dst := some 112, op := _, type := _, pos := _, after := _, guard := _ } :: _) _ _
                             go_must (refine wpList_grow rfl (.tmp 109) (.tmp 111) 22 rfl w4.heap.size 49 (.agg #[.string ⟨#[]⟩, .slice none 0 0, .slice none 0 0]) 3 64 Tryz.underlying22 (by kernel_rfl) rfl kChest rfl (by omega) [33, 5] (by decide) _ l' ⟨t1, t2, ls⟩ [.string (bs t1), .slice A7 n2 c7, .slice A9 j c9] wr.heap.size (Blk.new wr _ _) rfl rfl HGW.out HKW.out (by simp only [maxLen]; omega) (by omega) hbsz ?_)
                             intro v12 w12 hg12 hgr12 hbk12))
                        go_roundw
                        case measure => simp [intOf]; omega
                        case rel =>
                          refine ⟨k + 1, z2, l' ++ [⟨t1, t2, ls⟩], by omega, by go_num, rfl, hz2, ?_, hg12, HBW.out.grown hgr12 HBW.out.size (fun b hb => (hbk12 b hb).1)⟩
                          show _ = _
                          rw [chs, HCH.out]
                          simp [HRES.out]
                · have hd5 : decide ((nb : Int) < (ee : Int) + 4) = true := by simp; omega
                  have hp := hkn (by unfold tkChest; rw [HO1.out, HO2.out, HBL.out]; simp; omega)
                  have HP := Lib.hid hp
                  clear hp hkn
                  go_wp2_with fail
                  go_ret2
                  unfold RFromPost
                  rw [HP.out, HNX.out]
                  exact ⟨_, w4.heap.size, G3, rfl, HC4.out.size, SlV.nil, HR4.out.below HBE7.out, HC4.out.trans (Chg.of_below HBE7.out (fun _ => False)) (fun _ _ h => h.elim), HGB.out⟩
            · have hd3 := hd_lt_f hlt
              obtain rfl : k = m := by omega
              by_cases hend : z = nb
              · have hd6 : ((z : Int) != (nb : Int)) = false := by simp [hend]
                have hp : fromOf s xs = (0, l') := by
                  rw [HFR.out, HPP.out, HCH.out]
                  simp [hend, HBL.out]
                have HP := Lib.hid hp
                have HE := Lib.hid hend
                clear hp hend
                go_wp2_with fail
                go_ret2
                unfold RFromPost
                rw [HP.out, HNX.out]
                exact ⟨_, w4.heap.size, G3, rfl, HC4.out.size, HGV.out.slV (by decide), HR4.out.below HBE.out, HC4.out.trans (Chg.of_below HBE.out (fun _ => False)) (fun _ _ h => h.elim), HGB.out⟩
              · have hd6 : ((z : Int) != (nb : Int)) = true := by rw [bne_iff_ne]; omega
                have hp : fromOf s xs = (8, []) := by
                  rw [HFR.out, HPP.out, HCH.out]
                  simp [hend, HBL.out]
                have HP := Lib.hid hp
                clear hp hend
                go_wp2_with fail
                go_ret2
                unfold RFromPost
                rw [HP.out, HNX.out]
                exact ⟨_, w4.heap.size, G3, rfl, HC4.out.size, SlV.nil, HR4.out.below HBE.out, HC4.out.trans (Chg.of_below HBE.out (fun _ => False)) (fun _ _ h => h.elim), HGB.out⟩
      · go_region_held3 (fun _ => True) (exact True.intro) (first
          | (go_at_call 13
             with_reducible change Calls _ _ #[_, Value.slice _ nb c] _ _
             refine (rSum_any G r vb s (some ad) c nb bd w.drew ⟨HBL.out, HRB.out.move fun b _ hlt => ⟨hlt, rfl⟩⟩ (HR.out.below ((Below.refl _ _).drew)) (by omega) (by omega)).mono ?_
             rintro e w3 ⟨x, B3, G3, rfl, hB3, hx, hr3, hc3, hv3⟩
             obtain ⟨A3, c3, rfl, h3⟩ := ownB_of hx
             have hc3' : Chg G w w3 := ((Chg.of_below ((Below.refl w.heap.size w).drew) G)).trans hc3 (fun _ _ h => h)
             have HX3 := Lib.hid h3
             have HR3 := Lib.hid hr3
             have HC3 := Lib.hid hc3'
             have HV3 := Lib.hid hv3
             have HB3 := Lib.hid hB3
             clear hx h3 hr3 hc3 hc3' hv3 hB3)
          | (go_at_call 10
             with_reducible change Calls _ _ #[Value.slice A3 _ _, _] _ _
             refine (rEqual_any A3 (some (ad.add nb)) c3 _ 32 32 (s.dig bd) sm w3 _ _ HX3.out.row (HRS.out.keep HC3.out (fun b _ hb => hok b hb)) HX3.out.len HSL.out).mono ?_
             rintro e w4 ⟨rfl, q4, rfl⟩
             rw [decide_eq_false hdig])
          | fail)
        have hdg : fromNext s xs = s.next bd := by
          unfold fromNext
          rw [if_neg HB.out, HN.out, Nat.add_sub_cancel, HBD.out]
        have HNX := Lib.hid hdg
        have hfr : fromOf s xs = (6, []) := by
          unfold fromOf
          rw [if_neg HB.out, HN.out, Nat.add_sub_cancel, HBD.out, HSM.out, if_pos hdig]
        have HFR := Lib.hid hfr
        clear hdg hfr
        go_wp2_with fail
        go_ret2
        unfold RFromPost
        rw [HFR.out, HNX.out]
        have hc4 : Chg (fun _ => False) w3 (w3.drewN q4) := chg_drewN _ _ _
        refine ⟨_, B3, G3, rfl, HB3.out, SlV.nil, HR3.out.chg hc4 (fun _ _ _ h => h), HC3.out.trans hc4 (fun _ _ h => h.elim), HV3.out⟩
    · have hmk : ((bs t4).toList == [79, 67, 72, 49]) = false := by
        rw [bs_toList]
        simpa using hmark
      have hb : headBad xs = true := by
        unfold headBad
        rw [HT4.out]
        simp [hmark]
      have HB := Lib.hid hb
      clear hb hmark
      go_enter Tryz.func14, Tryz.ntmps14
      go_wp2_with fail
      go_ret2
      unfold RFromPost fromOf fromNext
      rw [if_pos HB.out, if_pos HB.out]
      exact ⟨_, w.heap.size, G, rfl, Nat.le_refl _, SlV.nil, HR.out, Chg.refl _ _, fun b hb => .inl hb⟩
end Go.Proofs.YtkenmpggblefiaaGreatDoor
