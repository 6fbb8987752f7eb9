/- The walk of the program's FromBytes. -/
import Derived.Test.YtkenmpggblefiaaGreatDoorCF
namespace Go.Proofs.YtkenmpggblefiaaGreatDoor
open Go.RowKit
attribute [local go_sem ↓] Go.wp_at_zero Go.wp_at_succ

theorem bytesEqual_any (A B : Option Addr) (c d n m : Nat) (xs ys : List UInt8) (w : World) (ok ok' : Nat → Prop) (h : RowV Kn.byte w ok A xs) (h' : RowV Kn.byte w ok' B ys) (hn : xs.length = n) (hm : ys.length = m) :
    Calls Tryz.prog 35 #[.slice A n c, .slice B m d] w fun e w' => e = .returned (.bool (decide (xs = ys))) ∧ w' = w := by
  have hc1 : (convert 33 9 (.slice A n c)).run Tryz.prog w = .ok (.string (bs xs)) w := run_bytes_string h hn Tryz.underlying33 Tryz.underlying5 Tryz.underlying9
  have hc2 : (convert 33 9 (.slice B m d)).run Tryz.prog w = .ok (.string (bs ys)) w := run_bytes_string h' hm Tryz.underlying33 Tryz.underlying5 Tryz.underlying9
  have he : ((bs xs).toList == (bs ys).toList) = decide (xs = ys) := by
    rw [bs_toList, bs_toList]
    rw [Bool.eq_iff_iff]
    simp
  clear h h'
  go_enter Tryz.func35, Tryz.ntmps35
  go_wp2_with fail
  go_ret
  exact ⟨rfl, rfl⟩

set_option maxHeartbeats 400000 in
theorem hasPrefix_any (A B : Option Addr) (c d n : Nat) (xs ys : List UInt8) (w : World) (ok ok' : Nat → Prop) (h : RowV Kn.byte w ok A xs) (h' : RowV Kn.byte w ok' B ys) (hn : xs.length = n) (hc : n ≤ c) (hm : ys.length = 4) (h4 : 4 ≤ n) (hnb : n < 1000000000) :
    Calls Tryz.prog 23 #[.slice A n c, .slice B 4 d] w fun e w' => e = .returned (.bool (decide (xs.take 4 = ys))) ∧ w' = w := by
  have hd : decide ((4 : Int) ≤ (n : Int)) = true := by simp; omega
  have i4 : (4 : Int) ≤ (c : Int) := by omega
  have H := Lib.hid (h.take 4)
  have H' := Lib.hid h'
  have HM := Lib.hid hm
  have HN := Lib.hid (show (xs.take 4).length = 4 by rw [List.length_take, hn]; omega)
  generalize xs.take 4 = t4 at *
  clear h h' hm hn
  go_enter Tryz.func23, Tryz.ntmps23
  go_wp2_with (first | (go_at_call 35; refine (bytesEqual_any A B c d 4 4 t4 ys w ok ok' H.out H'.out HN.out HM.out).mono ?_; rintro e w1 ⟨rfl, rfl⟩))
  go_ret
  exact ⟨rfl, rfl⟩

theorem parse_eq {bd : List UInt8} (h : 8 ≤ bd.length) : parse bd = (chests1024 bd (some 4)).bind fun s => if s.2 = bd.length then some s.1 else none := by
  unfold parse chests1024
  by_cases hb : gB (bd.drop 4) 4 > 1024
  · have e : num bd 1024 (some 4) = (0, none) := if_pos (.inr hb)
    rw [if_pos hb, e]
    rfl
  · have e : num bd 1024 (some 4) = (gB (bd.drop 4) 4, some 8) := if_neg (by
      rintro (h1 | h1)
      · omega
      · exact hb h1)
    rw [if_neg hb, e]
    rfl
/-- what the program's FromBytes leaves -/
def FromPost (v : Value) (b : Nat) (s : Cr) (xs : List UInt8) (w : World) (e : Ending) (w' : World) : Prop :=
  ∃ v', e = .returned (.tuple #[v', .int .i64 ((fromOf s xs).1 : Int)]) ∧ SlV kChest w' (okT w.heap.size [49, 33, 5] w') v' (fromOf s xs).2 ∧ CrIs w' v b (fromNext s xs) ∧ Chg (s.foot b) w w'

set_option maxHeartbeats 2000000 in
set_option maxRecDepth 100000 in
theorem From_any (ok : Nat → Prop) (v : Value) (b : Nat) (s : Cr) (A : Option Addr) (c n : Nat) (xs : List UInt8) (w : World) (h : RowV Kn.byte w ok A xs) (hn : xs.length = n) (hnc : n ≤ c) (hok : ∀ i, ok i → i < w.heap.size ∧ ¬ s.foot b i) (hnb : n < 1000000000) (hv : CrIs w v b s) (hm : s.many < 1000000000) :
    Calls Tryz.prog 11 #[v, .slice A n c] w fun e w' => FromPost v b s xs w e w' := by
  obtain ⟨T, u, F, r0, rfl, hfn⟩ := hv.fn
  have hnil := hfn.nil
  have hmeth := hfn.meth
  have hent := hfn.enter
  have HV := Lib.hid hv
  have HF := Lib.hid hfn
  have H := Lib.hid h
  have HN := Lib.hid hn
  clear hv hfn h hn
  have hmf : ∀ (fn : Fn) (first cap : Array Value) (w : World), (Instr.makeFunc fn first cap).run Tryz.prog w = .ok (.func fn first cap) w := fun _ _ _ _ => rfl
  have hcb : ∀ W : World, (convert 33 33 (.slice (some ⟨W.heap.size, 0, none⟩) 4 4)).run Tryz.prog (W.alloc (.cells #[.int .u8 79, .int .u8 67, .int .u8 72, .int .u8 49] 5)) = .ok (.slice (some ⟨W.heap.size, 0, none⟩) 4 4) (W.alloc (.cells #[.int .u8 79, .int .u8 67, .int .u8 72, .int .u8 49] 5 (4, 5))) :=
    fun W => Lib.run_convert_bytes_const W 33 5 #[.int .u8 79, .int .u8 67, .int .u8 72, .int .u8 49] 4 4 Tryz.underlying33 Tryz.underlying5
  by_cases h40 : n < 40
  · have hd : decide ((n : Int) < 40) = true := by simp; omega
    have hb : headBad xs = true := by
      unfold headBad
      rw [HN.out]
      simp [h40]
    have HB := Lib.hid hb
    clear hb
    go_enter Tryz.func11, Tryz.ntmps11
    go_wp2_with fail
    go_ret2
    unfold FromPost fromOf fromNext
    rw [if_pos HB.out, if_pos HB.out]
    exact ⟨_, rfl, SlV.nil, HV.out, Chg.refl _ _⟩
  · obtain ⟨nb, rfl⟩ : ∃ nb, n = nb + 32 := ⟨n - 32, by omega⟩
    have hd : decide ((nb : Int) + 32 < 40) = false := by simp; omega
    obtain ⟨ad, rfl⟩ : ∃ ad, A = some ad := by
      obtain ⟨ad, e, _⟩ := H.out.2 (by rw [HN.out]; omega)
      exact ⟨ad, e⟩
    obtain ⟨W, hW⟩ : ∃ W, W = w.alloc (.cells #[.int .u8 79, .int .u8 67, .int .u8 72, .int .u8 49] 5 (4, 5)) := ⟨_, rfl⟩
    have hbW : Below w.heap.size w W := by rw [hW]; exact below_new w _
    have hrm : RowV Kn.byte W (old W) (some ⟨w.heap.size, 0, none⟩) [79, 67, 72, 49] := RowV.of_bytes (by simp) (fun _ => by show w.heap.size < W.heap.size; rw [hW]; simp) (fun j u hu => by rw [hW]; exact World.news_of_block (heap_alloc_new w _) j u hu)
    have HRM := Lib.hid hrm
    have HBW := Lib.hid hbW
    have hbm : headBad xs = decide (xs.take 4 ≠ [79, 67, 72, 49]) := by
      unfold headBad
      rw [HN.out]
      simp
      omega
    have HBM := Lib.hid hbm
    clear hrm hbW hbm
    go_enter Tryz.func11, Tryz.ntmps11
    go_wp2_with fail
    rw [← hW]
    clear hW
    refine (hasPrefix_any (some ad) (some ⟨w.heap.size, 0, none⟩) c 4 (nb + 32) xs [79, 67, 72, 49] W (old w) (old W) (H.out.move fun i hi hlt => ⟨hlt, HBW.out.block i hlt⟩) HRM.out HN.out hnc rfl (by omega) hnb).mono ?_
    rintro e W' ⟨rfl, rfl⟩
    have HVW := Lib.hid (HV.out.below HBW.out)
    by_cases hmark : xs.take 4 = [79, 67, 72, 49]
    · rw [decide_eq_true hmark]
      have hb : ¬ headBad xs = true := by
        rw [HBM.out]
        simp [hmark]
      have HB := Lib.hid hb
      obtain ⟨bd, hbd⟩ : ∃ bd, xs.take nb = bd := ⟨_, rfl⟩
      obtain ⟨sm, hsm⟩ : ∃ sm, xs.drop nb = sm := ⟨_, rfl⟩
      have hbl : bd.length = nb := by rw [← hbd, List.length_take, HN.out]; omega
      have hsl : sm.length = 32 := by rw [← hsm, List.length_drop, HN.out]; omega
      have hrb : RowV Kn.byte w ok (some ad) bd := hbd ▸ H.out.take nb
      have hrs : RowV Kn.byte w ok (some (ad.add nb)) sm := by
        have := H.out.drop_at (k := nb) (by rw [HN.out]; omega)
        rwa [show nb * Kn.byte.sz = nb from Nat.mul_one nb, hsm] at this
      have hcb' : ¬ c = nb := by omega
      have i5 : (nb : Int) ≤ (c : Int) := by omega
      have i6 : (0 : Int) ≤ (nb : Int) := by omega
      have i7 : (nb : Int) ≤ (nb : Int) + 32 := by omega
      have i8 : (nb : Int) + 32 ≤ (c : Int) := by omega
      have e32 : IntKind.i64.wrap ((nb : Int) + 32 - 32) = (nb : Int) := by rw [IntWalk.i64_in _ (by omega)]; omega
      have e33 : IntKind.i64.wrap (((nb + 32 : Nat) : Int) - 32) = (nb : Int) := by rw [IntWalk.i64_in _ (by omega)]; omega
      have e34 : IntKind.i64.wrap (nb : Int) = (nb : Int) := IntWalk.i64_in _ (by omega)
      have HMK := Lib.hid hmark
      have HBD := Lib.hid hbd
      have HSM := Lib.hid hsm
      have HBL := Lib.hid hbl
      have HSL := Lib.hid hsl
      have HRB := Lib.hid hrb
      have HRS := Lib.hid hrs
      clear hb hmark hbd hsm hbl hsl hrb hrs hcb
      go_wp2_with fail
      go_quiet (fail)
      go_wp2_with fail
      obtain ⟨W2, hW2⟩ : ∃ W2, W2 = W'.drewN nq := ⟨_, rfl⟩
      rw [← hW2]
      have hc2 : Chg (fun _ => False) W' W2 := by rw [hW2]; exact chg_drewN _ _ _
      have hB2 : Below w.heap.size w W2 := (Chg.of_below HBW.out (fun _ => False) |>.trans hc2 (fun _ _ h => h)).none (fun _ _ h => h)
      have HB2 := Lib.hid hB2
      have HV2 := Lib.hid (HV.out.below hB2)
      have HX2 := Lib.hid (show HasB W2 (some ad) nb bd from ⟨HBL.out, HRB.out.move fun i hi hlt => ⟨by have := hB2.size; show i < _; omega, hB2.block i hlt⟩⟩)
      clear hW2 hc2 hB2
      refine (HF.out.sum (some ad) c nb bd b s W2 HX2.out (by omega) (by omega) (by omega) HV2.out).mono ?_
      rintro e w3 ⟨x, rfl, hx, hv3, hc3⟩
      obtain ⟨A3, c3, rfl, h3⟩ := ownB_of hx
      have hC3 : Chg (s.foot b) w w3 := (Chg.of_below HB2.out (s.foot b)).trans hc3 (fun _ _ h => h)
      have HX3 := Lib.hid h3
      have HV3 := Lib.hid hv3
      have HC3 := Lib.hid hC3
      have HRS3 := Lib.hid (HRS.out.chg hC3 (ok' := ok) (fun i _ hi => ⟨hi, (hok i hi).2⟩))
      have HRB3 := Lib.hid (HRB.out.chg hC3 (ok' := ok) (fun i _ hi => ⟨hi, (hok i hi).2⟩))
      have hs3 : w.heap.size ≤ w3.heap.size := hC3.size
      have hdg : fromNext s xs = s.next bd := by
        unfold fromNext
        rw [if_neg HB.out, HN.out, Nat.add_sub_cancel, HBD.out]
      have HNX := Lib.hid hdg
      clear hx h3 hv3 hc3 hC3 hdg
      by_cases hdig : s.dig bd = sm
      · have hfr : fromOf s xs = match parse bd with | none => (8, []) | some l => (0, l) := by
          unfold fromOf
          rw [if_neg HB.out, HN.out, Nat.add_sub_cancel, HBD.out, HSM.out, if_neg (fun h => h hdig)]
          cases parse bd <;> rfl
        have HFR := Lib.hid hfr
        clear hfr
        have hpe := parse_eq (bd := bd) (by rw [HBL.out]; omega)
        have HPE := Lib.hid hpe
        clear hpe
        have i9 : (4 : Int) ≤ (nb : Int) := by omega
        have hc4 : ¬ c = 4 := by omega
        go_wp2_with (first
          | (go_at_call 24
             refine (Equal_n A3 (some (ad.add nb)) c3 _ 32 32 (s.dig bd) sm w3 _ _ HX3.out.row HRS3.out HX3.out.len HSL.out).mono ?_
             rintro e w4 ⟨rfl, q4, rfl⟩
             rw [decide_eq_true hdig]))
        obtain ⟨w5, hw5⟩ : ∃ w5, w5 = (w3.drewN q4).alloc (.cells #[.slice (some ⟨ad.block, ad.off + 4, none⟩) (nb - 4) (c - 4), .bool false] 60) := ⟨_, rfl⟩
        rw [← hw5]
        have hb5 : Below w3.heap.size w3 w5 := by rw [hw5]; exact (below_drewN (Below.refl _ _) q4).alloc (Nat.le_refl _) _
        have hx5 : Blk w5 w3.heap.size 60 #[.slice (some ⟨ad.block, ad.off + 4, none⟩) (nb - 4) (c - 4), .bool false] := by rw [hw5]; exact heap_alloc_new (w3.drewN q4) _
        have hokp : ¬ ok w3.heap.size := fun h => by have := (hok _ h).1; omega
        have hrow4 : RowV Kn.byte w5 ok (some ⟨ad.block, ad.off + 4, none⟩) (bd.drop 4) := ((HRB3.out.move fun i hi hlt => ⟨hi, hb5.block i hlt⟩ : RowV Kn.byte w5 ok (some ad) bd)).drop_at (k := 4) (by rw [HBL.out]; omega)
        have hst5 : RdSt ok w5 w3.heap.size bd (some 4) := ⟨by rw [HBL.out]; omega, _, _, _, hx5, by rw [List.length_drop, HBL.out], by omega, hrow4⟩
        have hs5 : w3.heap.size < w5.heap.size := hx5.lt
        have HB5 := Lib.hid hb5
        have HST5 := Lib.hid hst5
        clear hw5 hb5 hx5 hrow4 hst5
        refine (someChest_any ok w3.heap.size bd (some 4) w5 HST5.out hokp (fun i hi => by have := (hok i hi).1; omega) (by rw [HBL.out]; omega)).mono ?_
        intro e w6 h6
        obtain ⟨v6, rfl, hg6, hm6⟩ := h6
        have HG6 := Lib.hid hg6
        have hC6 : Chg (s.foot b) w w6 := (HC3.out.trans (Chg.of_below HB5.out (s.foot b)) (fun _ _ h => h)).trans (Chg.of_grown hg6) (fun i hi e => by cases e; omega)
        have hV6 : CrIs w6 (.iface T u) b (s.next bd) := by
          have h7 := HV.out.keep HV3.out (Chg.of_below HB5.out (fun _ => False)) (fun _ _ h => h)
          exact HV.out.keep h7 (Chg.of_grown hg6) (fun i hi e => by cases e; omega)
        have HC6 := Lib.hid hC6
        have HV6 := Lib.hid hV6
        clear hg6 hC6 hV6
        rcases hch : chests1024 bd (some 4) with _ | s6
        · rw [hch] at hm6
          obtain ⟨rfl, h7⟩ := hm6
          obtain ⟨vp, hvp⟩ := h7.bad
          have hk : w6.cell? ⟨w3.heap.size, 1, none⟩ = some (.bool true) := hvp.cell 1
          have hp : fromOf s xs = (8, []) := by
            rw [HFR.out, HPE.out, hch]
            rfl
          have HP := Lib.hid hp
          clear hp hch hvp h7
          go_wp2_with fail
          go_ret2
          unfold FromPost
          rw [HP.out, HNX.out]
          exact ⟨_, rfl, SlV.nil, HV6.out, HC6.out⟩
        · rw [hch] at hm6
          obtain ⟨h7, hz, A8, n8, c8, hx8, hl8, hnc8, hr8⟩ := hm6
          have hk : w6.cell? ⟨w3.heap.size, 1, none⟩ = some (.bool false) := hx8.cell 1
          have hk0 : w6.cell? ⟨w3.heap.size, 0, none⟩ = some (.slice A8 n8 c8) := hx8.cell 0
          rw [List.length_drop, HBL.out] at hl8
          rw [HBL.out] at hz
          have H7 := Lib.hid h7
          by_cases hend : s6.2 = nb
          · obtain rfl : n8 = 0 := by omega
            have hp : fromOf s xs = (0, s6.1) := by
              rw [HFR.out, HPE.out, hch]
              simp [hend, HBL.out]
            have HP := Lib.hid hp
            clear hp hch hx8 hr8 hend hl8 h7
            go_wp2_with fail
            go_ret2
            unfold FromPost
            rw [HP.out, HNX.out]
            exact ⟨_, rfl, (H7.out.slV (by decide)).mono fun i hi _ => hi.base (by omega), HV6.out, HC6.out⟩
          · have hd0 : decide (0 < (n8 : Int)) = true := by simp; omega
            have hd00 : 0 < n8 := by omega
            have hp : fromOf s xs = (8, []) := by
              rw [HFR.out, HPE.out, hch]
              simp [hend, HBL.out]
            have HP := Lib.hid hp
            clear hp hch hx8 hr8 hend hl8 h7
            go_wp2_with fail
            go_ret2
            unfold FromPost
            rw [HP.out, HNX.out]
            exact ⟨_, rfl, SlV.nil, HV6.out, HC6.out⟩
      · have hfr : fromOf s xs = (6, []) := by
          unfold fromOf
          rw [if_neg HB.out, HN.out, Nat.add_sub_cancel, HBD.out, HSM.out, if_pos hdig]
        have HFR := Lib.hid hfr
        clear hfr
        go_wp2_with (first
          | (go_at_call 24
             refine (Equal_n A3 (some (ad.add nb)) c3 _ 32 32 (s.dig bd) sm w3 _ _ HX3.out.row HRS3.out HX3.out.len HSL.out).mono ?_
             rintro e w4 ⟨rfl, q4, rfl⟩
             rw [decide_eq_false hdig]))
        go_ret2
        unfold FromPost
        rw [HFR.out, HNX.out]
        have hc4 : Chg (fun _ => False) w3 (w3.drewN q4) := chg_drewN _ _ _
        exact ⟨_, rfl, SlV.nil, HV3.out.chg hc4 (fun _ _ h => h), HC3.out.trans hc4 (fun _ _ h => h.elim)⟩
    · rw [decide_eq_false hmark]
      have hb : headBad xs = true := by
        rw [HBM.out]
        simp [hmark]
      have HB := Lib.hid hb
      clear hb hmark
      go_wp2_with fail
      go_ret2
      unfold FromPost fromOf fromNext
      rw [if_pos HB.out, if_pos HB.out]
      exact ⟨_, rfl, SlV.nil, HVW.out, Chg.of_below HBW.out _⟩
end Go.Proofs.YtkenmpggblefiaaGreatDoor
