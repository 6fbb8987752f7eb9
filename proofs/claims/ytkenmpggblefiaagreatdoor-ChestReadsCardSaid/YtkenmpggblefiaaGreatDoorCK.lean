/- The walk of the law ChestReads. -/
import Derived.Test.YtkenmpggblefiaaGreatDoorCJ
namespace Go.Proofs.YtkenmpggblefiaaGreatDoor
open Go.RowKit
attribute [local go_sem ↓] Go.wp_at_zero Go.wp_at_succ

/-- the state behind a writing -/
def wrNext (s : Cr) (l : List Chest) : Cr := if bigL l = true then s else s.next (bodyOf l)
theorem wrNext_many (s : Cr) (l : List Chest) : (wrNext s l).many ≤ s.many + 1 := by
  unfold wrNext
  split
  · omega
  · exact cr_next_many _ _
theorem fromNext_many (s : Cr) (xs : List UInt8) : (fromNext s xs).many ≤ s.many + 1 := by
  unfold fromNext
  split
  · omega
  · exact cr_next_many _ _
theorem wrNext_foot {s : Cr} {l : List Chest} {b i : Nat} (h : (wrNext s l).foot b i) : s.foot b i := by
  unfold wrNext at h
  split at h
  · exact h
  · exact foot_next h
theorem fromNext_foot {s : Cr} {xs : List UInt8} {b i : Nat} (h : (fromNext s xs).foot b i) : s.foot b i := by
  unfold fromNext at h
  split at h
  · exact h
  · exact foot_next h
theorem bytes_state {v : Value} {b : Nat} {s : Cr} {l : List Chest} {w w' : World} {e : Ending} (h : BytesPost v b s l w e w') (hv : CrIs w v b s) : ∃ r, e = .returned r ∧ CrIs w' v b (wrNext s l) ∧ Chg (s.foot b) w w' := by
  unfold BytesPost at h
  unfold wrNext
  by_cases hb : bigL l = true
  · rw [if_pos hb] at h ⊢
    obtain ⟨rfl, hb⟩ := h
    exact ⟨_, rfl, hv.below hb, Chg.of_below hb _⟩
  · rw [if_neg hb] at h ⊢
    obtain ⟨x, rfl, _, h1, h2⟩ := h
    exact ⟨_, rfl, h1, h2⟩
theorem rbytes_state {G : Nat → Prop} {r : Nat} {vb : Value} {s : Cr} {l : List Chest} {w w' : World} {e : Ending} (h : RBytesPost G r vb s l w e w') (hr : RefAt G w r vb s) : ∃ x G', e = .returned x ∧ RefAt G' w' r vb (wrNext s l) ∧ Chg G w w' ∧ ∀ b, G' b → (G b ∨ w.heap.size ≤ b) ∧ b < w'.heap.size := by
  unfold RBytesPost at h
  unfold wrNext
  by_cases hb : bigL l = true
  · rw [if_pos hb] at h ⊢
    obtain ⟨rfl, q, rfl⟩ := h
    have h1 := hr.chg (chg_drewN (fun _ => False) w q) (fun _ _ _ h => h)
    exact ⟨_, _, rfl, h1.cut, chg_drewN _ _ _, fun b hb => ⟨.inl hb.1, hb.2⟩⟩
  · rw [if_neg hb] at h ⊢
    obtain ⟨x, G', rfl, _, h1, h2, h3⟩ := h
    refine ⟨_, _, rfl, h1.cut, h2, fun b hb => ⟨?_, hb.2⟩⟩
    rcases h3 b hb.1 with h | h
    · exact .inl h
    · exact .inr h.1
theorem own_pos {w : World} {B : Nat} {e : TypeId} {size n : Nat} {v : Value} {xs : List Value} (h : w.ownsRow B e size v n xs) (hn : 0 < n) : ∃ g, v.ownBlock = some g ∧ B ≤ g ∧ g < w.heap.size := by
  rcases h.2 with ⟨rfl, h0⟩ | ⟨g, cap, cur, rfl, hb, hh, _⟩
  · omega
  · exact ⟨g, rfl, hb, Blk.lt (t := e) hh⟩

set_option maxHeartbeats 4000000 in
theorem chestReads_any (ideal : Bool) (A : Option Addr) (c n : Nat) (l : List Chest) (B : Option Addr) (d m : Nat) (xs : List UInt8) (w : World) (h : RowV kChest w (old w) A l) (hn : l.length = n) (hB : Fits l) (h' : RowV Kn.byte w (old w) B xs) (hm : xs.length = m) (hmd : m ≤ d) :
    Calls Tryz.prog 4 #[.bool ideal, .slice A n c, .slice B m d] w fun e w' => e = .returned (.bool true) ∧ Below w.heap.size w w' := by
  have H := Lib.hid h
  have HN := Lib.hid hn
  have HBD := Lib.hid hB
  have HX := Lib.hid h'
  have HM := Lib.hid hm
  clear h hn hB h' hm
  go_enter Tryz.func4, Tryz.ntmps4
  go_wp2_with fail
  refine (awake_any w).mono ?_
  rintro e w1 ⟨rfl, hb1⟩
  have HB1 := Lib.hid hb1
  clear hb1
  go_wp2_with fail
  refine (Small_any A c n l 4000 w1 (H.out.old_ HB1.out |>.mono fun i hi hlt => hlt) HN.out (by omega) HBD.out).mono ?_
  rintro e w2 ⟨rfl, q2, rfl⟩
  obtain ⟨w2, hw2⟩ : ∃ w2, w2 = w1.drewN q2 := ⟨_, rfl⟩
  rw [← hw2]
  have HB2 : Hid (Below w.heap.size w w2) := by rw [hw2]; exact below_drewN HB1.out q2
  clear hw2
  by_cases hsm : tot l ≤ 4000
  · rw [decide_eq_true hsm]
    have HT := Lib.hid hsm
    clear hsm
    by_cases hbm : 4000 < m
    · have hd : decide (4000 < (m : Int)) = true := by simp; omega
      go_wp2_with fail
      go_ret
      exact ⟨rfl, HB2.out⟩
    · have hd : decide (4000 < (m : Int)) = false := by simp; omega
      go_wp2_with fail
      refine (of_any ideal w2).mono ?_
      intro e w3 h3
      obtain ⟨v, b, rfl, hv3, hb3, hbb⟩ := h3
      have hfn := hv3.fn
      obtain ⟨T, u, F, r0, rfl, hfn⟩ := hfn
      have hnil := hfn.nil
      have hmeth := hfn.meth
      have hent := hfn.enter
      have HF := Lib.hid hfn
      have HV3 := Lib.hid hv3
      have HB3 := Lib.hid (below_step HB2.out HB2.out.size hb3)
      have hbw : w.heap.size ≤ b := Nat.le_trans HB2.out.size hbb
      clear hv3 hb3 hfn
      go_wp2_with fail
      obtain ⟨w4, hw4⟩ : ∃ w4, w4 = w3.alloc (.cells #[.bool ideal, .slice none 0 0, .slice none 0 0] 32) := ⟨_, rfl⟩
      rw [← hw4]
      have hr4 : RefAt (fun i => i = w3.heap.size) w4 w3.heap.size (.slice none 0 0) (crOf ideal) := by rw [hw4]; exact ref_new ideal w3
      have hb4 : Below w3.heap.size w3 w4 := by rw [hw4]; exact below_new w3 _
      have hs4 : w3.heap.size < w4.heap.size := by rw [hw4]; simp
      have hrw : w.heap.size ≤ w3.heap.size := HB3.out.size
      have HR4 := Lib.hid hr4
      have HB4 := Lib.hid (below_step HB3.out HB3.out.size hb4)
      have HV4 := Lib.hid (HV3.out.below hb4)
      have hs := crOf_many ideal
      clear hw4 hr4 hb4
      generalize crOf ideal = s at *
      have hft : ∀ i, s.foot b i → i = b ∧ i < w3.heap.size := fun i hi => ⟨foot_eq hi, HV3.out.foot_lt i hi⟩
      refine (Bytes_any _ b s (by omega) A c n l w4 (H.out.old_ HB4.out |>.mono fun i hi hlt => hlt) HN.out (by have := HT.out; omega) HV4.out).mono ?_
      intro e w5 h5
      obtain ⟨res, rfl, hv5, hc5⟩ := bytes_state h5 HV4.out
      have HV5 := Lib.hid hv5
      have HB5 : Hid (Below w.heap.size w w5) := ((Chg.of_below HB4.out (fun i => i = b)).trans hc5 (fun i _ h => foot_eq h)).below (Nat.le_refl _) (fun i hi e => by omega)
      have HR5 := Lib.hid (HR4.out.chg hc5 (fun i _ hi h => by have := (hft i h).2; have : i = w3.heap.size := hi; omega))
      have hs5 : w4.heap.size ≤ w5.heap.size := hc5.size
      clear h5 hv5 hc5
      go_wp2_with fail
      refine (rBytes_any _ w3.heap.size (.slice none 0 0) s A c n l w5 (H.out.old_ HB5.out |>.mono fun i hi hlt => hlt) HN.out (by have := HT.out; omega) HR5.out (by rintro i rfl; omega) (by omega)).mono ?_
      intro e w6 h6
      obtain ⟨res2, G6, rfl, hr6, hc6, hg6⟩ := rbytes_state h6 HR5.out
      have hs6 : w5.heap.size ≤ w6.heap.size := hc6.size
      have HB6 : Hid (Below w.heap.size w w6) := ((Chg.of_below HB5.out (fun i => i = w3.heap.size)).trans hc6 (fun i _ h => h)).below (Nat.le_refl _) (fun i hi e => by omega)
      have HV6 := Lib.hid (HV3.out.keep HV5.out hc6 (fun i hi e => by have : i = w3.heap.size := e; omega))
      have HR6 := Lib.hid hr6
      have HG6 : Hid (∀ i, G6 i → w3.heap.size ≤ i ∧ i < w6.heap.size) := by
        intro i hi
        obtain ⟨h7, h8⟩ := hg6 i hi
        refine ⟨?_, h8⟩
        rcases h7 with h7 | h7
        · have : i = w3.heap.size := h7
          omega
        · omega
      have hn1 := wrNext_many s l
      have HW1 : Hid (∀ i, (wrNext s l).foot b i → i = b ∧ i < w3.heap.size) := fun i hi => hft i (wrNext_foot hi)
      clear h6 hr6 hc6 hg6 hft
      generalize wrNext s l = s1 at *
      have HXB6 := Lib.hid (show HasB w6 B m xs from ⟨HM.out, HX.out.move fun i hi _ => ⟨by have := HB6.out.size; show i < _; have : i < w.heap.size := hi; omega, HB6.out.block i hi⟩⟩)
      go_wp2_with (first
        | (with_reducible change wpList _ _ _ ({ dst := some 41, op := _, type := _, pos := _, after := _, guard := _ } :: _) _ _; go_must (refine wpList_cat (w0 := w6) rfl (.tmp 39) (.tmp 40) 33 rfl w6.heap.size Tryz.underlying33 Tryz.info5 (own_emptyB w6 _ (Nat.le_refl _)) rfl (below_new w6 _) d rfl (HXB6.out.kept (below_new w6 _)) (by omega) (by simp) ?_)
           intro v7 w7 hown7 hb7 _ _
           rw [Nat.zero_add, List.nil_append] at hown7
           have HO7 := Lib.hid hown7
           have HB7 := Lib.hid hb7
           clear hown7 hb7)
        | (go_at_call 13
           refine (rSum_any G6 w3.heap.size (.slice none 0 0) s1 B d m xs w7 (HXB6.out.kept HB7.out) (HR6.out.below HB7.out) (by omega) (by omega)).mono ?_
           intro e w8 h8
           obtain ⟨x8, B8, G8, rfl, hb8, hx8, hr8, hc8, hg8⟩ := h8
           obtain ⟨A8, c8, rfl, hO8⟩ := ownB_of hx8
           have hB8 : B8 ≤ w8.heap.size := by
             obtain ⟨g, _, h1, h2⟩ := own_pos hx8 (by omega)
             omega
           have HO8 := Lib.hid hO8
           have HR8 := Lib.hid hr8
           have HC8 := Lib.hid hc8
           have HG8 := Lib.hid hg8
           have hs78 : w7.heap.size ≤ w8.heap.size := hc8.size
           have hs67 : w6.heap.size ≤ w7.heap.size := HB7.out.size
           have HK8 := Lib.hid (own_chg_ge HO7.out hc8 (fun i hi => (HG6.out i hi).2))
           clear hx8 hO8 hr8 hc8 hg8)
        | (with_reducible change wpList _ _ _ ({ dst := some 45, op := _, type := _, pos := _, after := _, guard := _ } :: _) _ _; go_must (refine wpList_cat (w0 := w8) rfl (.tmp 41) (.tmp 44) 33 rfl w6.heap.size Tryz.underlying33 Tryz.info5 HK8.out rfl (Below.refl _ _) c8 rfl HO8.out.has (by omega) (by omega) ?_)
           intro v9 w9 hown9 hb9 hg9 hat9
           have HO9 := Lib.hid hown9
           have HGR9 := Lib.hid hg9
           have HAT9 := Lib.hid hat9
           clear hown9 hb9 hg9 hat9))
      obtain ⟨ys, hys⟩ : ∃ ys, xs ++ s1.dig xs = ys := ⟨_, rfl⟩
      have hyl : ys.length = m + 32 := by rw [← hys, List.length_append, Cr.dig_length, HM.out]
      have h9 := HO9.out
      rw [hys] at h9
      obtain ⟨A9, c9, rfl, hO9⟩ := ownB_of h9
      have hv7 : ∀ i, v7.ownBlock = some i → w6.heap.size ≤ i ∧ i < w7.heap.size := fun i hi => HO7.out.lt i hi
      have hsz9 : w8.heap.size ≤ w9.heap.size := HGR9.out.size
      have hG8 : ∀ i, G8 i → (w3.heap.size ≤ i ∧ i < w6.heap.size) ∨ (w7.heap.size ≤ i ∧ i < w8.heap.size) := by
        intro i hi
        rcases HG8.out i hi with h | h
        · exact .inl (HG6.out i h)
        · exact .inr ⟨h.1, by omega⟩
      have hr9 : RefAt G8 w9 w3.heap.size (.slice none 0 0) (s1.next xs) := HR8.out.chg (Chg.of_grown HGR9.out) (fun i _ hi e => by
        have h7 := hv7 i e.symm
        rcases hG8 i hi with h | h <;> omega)
      have HR9 := Lib.hid hr9.cut
      have HG9 : Hid (∀ i, (G8 i ∧ i < w9.heap.size) → w3.heap.size ≤ i ∧ i < w9.heap.size) := by
        intro i hi
        rcases hG8 i hi.1 with h | h <;> omega
      have HNO : Hid (∀ i, some i = (Value.slice A9 (m + 32) c9).ownBlock → ¬ (G8 i ∧ i < w9.heap.size) ∧ w6.heap.size ≤ i ∧ i < w9.heap.size) := by
        intro i hi
        refine ⟨?_, (HO9.out.lt i hi.symm).1, (HO9.out.lt i hi.symm).2⟩
        rintro ⟨hg, _⟩
        rcases HAT9.out with h | h
        · have h7 := hv7 i (h.symm.trans hi.symm)
          rcases hG8 i hg with h | h <;> omega
        · rw [h] at hi
          cases hi
          have h3 := HG8.out _ hg
          rcases h3 with h3 | h3
          · have := HG6.out _ h3
            omega
          · omega
      have k69 : Chg (fun i => w3.heap.size ≤ i) w6 w9 := ((Chg.of_below HB7.out (fun i => w3.heap.size ≤ i)).trans HC8.out (fun i _ h => (HG6.out i h).1)).trans (Chg.of_grown HGR9.out) (fun i _ e => by have := hv7 i e.symm; omega)
      have HB9 : Hid (Below w.heap.size w w9) := ((Chg.of_below HB6.out (fun i => w3.heap.size ≤ i)).trans k69 (fun i _ h => h)).below (Nat.le_refl _) (fun i hi e => by omega)
      have HV9 := Lib.hid (HV3.out.keep HV6.out k69 (fun i hi e => by omega))
      have hOr : RowV Kn.byte w9 (fun i => some i = (Value.slice A9 (m + 32) c9).ownBlock) A9 ys := hO9.row.mono fun i hi _ => hi.2
      have HOR := Lib.hid hOr
      have HYL := Lib.hid hyl
      have hc9 : m + 32 ≤ c9 := hO9.le
      have HX9 := Lib.hid (show HasB w9 B m xs from ⟨HM.out, HX.out.move fun i hi _ => ⟨by have := HB9.out.size; have : i < w.heap.size := hi; show i < _; omega, HB9.out.block i hi⟩⟩)
      have hs39 : w3.heap.size ≤ w9.heap.size := by omega
      have hnm := cr_next_many s1 xs
      clear hys hyl h9 hO9 hv7 hG8 hr9 k69 hOr HO9 HAT9 HGR9 HO7 HB7 HO8 HR8 HC8 HG8 HK8 HR6 HG6 HXB6
      generalize hGG : (fun i => G8 i ∧ i < w9.heap.size) = G9 at *
      have HG9' : Hid (∀ i, G9 i → w3.heap.size ≤ i ∧ i < w9.heap.size) := by rw [← hGG]; exact HG9.out
      have HNO' : Hid (∀ i, some i = (Value.slice A9 (m + 32) c9).ownBlock → ¬ G9 i ∧ w6.heap.size ≤ i ∧ i < w9.heap.size) := by rw [← hGG]; exact HNO.out
      clear hGG HG9 HNO
      refine (HF.out.sum B d m xs b s1 w9 HX9.out hmd (by omega) (by omega) HV9.out).mono ?_
      intro e w10 h10
      obtain ⟨x10, rfl, _, hv10, hc10⟩ := h10
      have hF10 : ∀ i, s1.foot b i → i = b ∧ i < w3.heap.size := HW1.out
      have HFT : Hid (∀ i, (s1.next xs).foot b i → i = b ∧ i < w3.heap.size) := fun i hi => HW1.out i (foot_next hi)
      have HV10 := Lib.hid hv10
      have HB10 : Hid (Below w.heap.size w w10) := ((Chg.of_below HB9.out (fun i => i = b)).trans hc10 (fun i _ h => (hF10 i h).1)).below (Nat.le_refl _) (fun i hi e => by omega)
      have HR10 := Lib.hid (HR9.out.chg hc10 (fun i _ hi h => by have := (hF10 i h).2; have := (HG9'.out i hi).1; omega))
      have HOR10 := Lib.hid (HOR.out.chg hc10 (ok' := fun i => some i = (Value.slice A9 (m + 32) c9).ownBlock) (fun i _ hi => ⟨hi, fun h => by have := (hF10 i h).2; have := (HNO'.out i hi).2.1; omega⟩))
      have hs10 : w9.heap.size ≤ w10.heap.size := hc10.size
      clear hv10 hc10 hF10 HW1 HV9 HR9 HOR HX9
      generalize s1.next xs = s2 at *
      go_wp2_with fail
      refine (From_any (fun i => i < w.heap.size) _ b s2 B d m xs w10 (HX.out.move fun i hi _ => ⟨hi, HB10.out.block i hi⟩) HM.out hmd (fun i hi => ⟨by have := HB10.out.size; omega, fun h => by have := (HFT.out i h).1; omega⟩) (by omega) HV10.out (by omega)).mono ?_
      intro e w11 h11
      obtain ⟨v11, rfl, hl11, hv11, hc11⟩ := h11
      obtain ⟨A11, c11, rfl, _, _, hL11⟩ := hl11
      have HV11 := Lib.hid hv11
      have HB11 : Hid (Below w.heap.size w w11) := ((Chg.of_below HB10.out (fun i => i = b)).trans hc11 (fun i _ h => (HFT.out i h).1)).below (Nat.le_refl _) (fun i hi e => by omega)
      have HR11 := Lib.hid (HR10.out.chg hc11 (fun i _ hi h => by have := (HFT.out i h).2; have := (HG9'.out i hi).1; omega))
      have HOR11 := Lib.hid (HOR10.out.chg hc11 (ok' := fun i => some i = (Value.slice A9 (m + 32) c9).ownBlock) (fun i _ hi => ⟨hi, fun h => by have := (HFT.out i h).2; have := (HNO'.out i hi).2.1; omega⟩))
      have HL11 := Lib.hid (hL11.mono (ok' := fun i => w10.heap.size ≤ i ∧ i < w11.heap.size) fun i hi hlt => ⟨hi.1, hlt⟩)
      have hs11 : w10.heap.size ≤ w11.heap.size := hc11.size
      have hnm3 := fromNext_many s2 xs
      clear hv11 hc11 hL11 HV10 HR10 HOR10
      go_wp2_with fail
      refine (rFrom_any G9 (fun i => i < w.heap.size) w3.heap.size (.slice none 0 0) s2 B d m xs w11 (HX.out.move fun i hi _ => ⟨hi, HB11.out.block i hi⟩) HM.out hmd (fun i hi h => by have := (HG9'.out i h).1; omega) (by omega) HR11.out (by omega)).mono ?_
      intro e w12 h12
      obtain ⟨v12, B12, G12, rfl, hB12, hl12, hr12, hc12, hg12⟩ := h12
      obtain ⟨A12, c12, rfl, _, _, hL12⟩ := hl12
      have HG12 : Hid (∀ i, (G12 i ∧ i < w12.heap.size) → (w3.heap.size ≤ i ∧ i < w9.heap.size ∧ G9 i) ∨ (w11.heap.size ≤ i ∧ i < B12 ∧ i < w12.heap.size)) := by
        rintro i ⟨hi, hi2⟩
        rcases hg12 i hi with h | h
        · exact .inl ⟨(HG9'.out i h).1, (HG9'.out i h).2, h⟩
        · exact .inr ⟨h.1, h.2, hi2⟩
      have HV12 := Lib.hid (HV3.out.keep HV11.out hc12 (fun i hi e => by have := (HG9'.out i e).1; omega))
      have HB12 : Hid (Below w.heap.size w w12) := ((Chg.of_below HB11.out G9).trans hc12 (fun i _ h => h)).below (Nat.le_refl _) (fun i hi e => by have := (HG9'.out i e).1; omega)
      have HR12 := Lib.hid hr12.cut
      have HOR12 := Lib.hid (HOR11.out.chg hc12 (ok' := fun i => some i = (Value.slice A9 (m + 32) c9).ownBlock) (fun i _ hi => ⟨hi, (HNO'.out i hi).1⟩))
      have HL11' := Lib.hid (HL11.out.chg hc12 (ok' := fun i => w10.heap.size ≤ i ∧ i < w11.heap.size) (fun i _ hi => ⟨hi, fun h => by have := (HG9'.out i h).2; omega⟩))
      have HL12 := Lib.hid (hL12.mono (ok' := fun i => B12 ≤ i ∧ i < w12.heap.size) fun i hi hlt => ⟨hi.1, hlt⟩)
      have hs12 : w11.heap.size ≤ w12.heap.size := hc12.size
      have HBB := Lib.hid hB12
      have HFT3 : Hid (∀ i, (fromNext s2 xs).foot b i → i = b ∧ i < w3.heap.size) := fun i hi => HFT.out i (fromNext_foot hi)
      clear hB12 hr12 hc12 hg12 hL12 HV11 HR11 HOR11 HL11
      generalize fromNext s2 xs = s3 at *
      obtain ⟨k1, hk1⟩ : ∃ k1, (fromOf s2 xs).1 = k1 := ⟨_, rfl⟩
      obtain ⟨l1, hl1⟩ : ∃ l1, (fromOf s2 xs).2 = l1 := ⟨_, rfl⟩
      rw [hk1, hl1]
      rw [hl1] at HL11' HL12
      clear hk1 hl1
      go_wp2_with fail
      have HGC : Hid (∀ i, (G12 i ∧ i < w12.heap.size) → ¬ some i = (Value.slice A9 (m + 32) c9).ownBlock) := by
        intro i hi e
        have h1 := HNO'.out i e
        rcases HG12.out i hi with h | h
        · exact h1.1 h.2.2
        · omega
      generalize hGG : (fun i => G12 i ∧ i < w12.heap.size) = H12 at *
      have HGD : Hid (∀ i, H12 i → (w3.heap.size ≤ i ∧ i < w9.heap.size) ∨ (w11.heap.size ≤ i ∧ i < B12 ∧ i < w12.heap.size)) := by
        intro i hi
        rw [← hGG] at hi
        rcases HG12.out i hi with h | h
        · exact .inl ⟨h.1, h.2.1⟩
        · exact .inr h
      have HGE : Hid (∀ i, H12 i → ¬ some i = (Value.slice A9 (m + 32) c9).ownBlock) := by
        intro i hi
        rw [← hGG] at hi
        exact HGC.out i hi
      clear hGG HG12 HGC
      refine (From_any (fun i => some i = (Value.slice A9 (m + 32) c9).ownBlock) _ b s3 A9 c9 (m + 32) ys w12 HOR12.out HYL.out hc9 (fun i hi => ⟨by have := (HNO'.out i hi).2.2; omega, fun h => by have := (HFT3.out i h).2; have := (HNO'.out i hi).2.1; omega⟩) (by omega) HV12.out (by omega)).mono ?_
      intro e w13 h13
      obtain ⟨v13, rfl, hl13, hv13, hc13⟩ := h13
      obtain ⟨A13, c13, rfl, _, _, hL13⟩ := hl13
      have HB13 : Hid (Below w.heap.size w w13) := ((Chg.of_below HB12.out (fun i => i = b)).trans hc13 (fun i _ h => (HFT3.out i h).1)).below (Nat.le_refl _) (fun i hi e => by omega)
      have HR13 := Lib.hid (HR12.out.chg hc13 (fun i _ hi h => by
        have := (HFT3.out i h).2
        rcases HGD.out i hi with h | h <;> omega))
      have HOR13 := Lib.hid (HOR12.out.chg hc13 (ok' := fun i => some i = (Value.slice A9 (m + 32) c9).ownBlock) (fun i _ hi => ⟨hi, fun h => by have := (HFT3.out i h).2; have := (HNO'.out i hi).2.1; omega⟩))
      have HX13 := Lib.hid (HL11'.out.chg hc13 (ok' := fun i => w10.heap.size ≤ i ∧ i < w11.heap.size) (fun i _ hi => ⟨hi, fun h => by have := (HFT3.out i h).2; omega⟩))
      have HY13 := Lib.hid (HL12.out.chg hc13 (ok' := fun i => B12 ≤ i ∧ i < w12.heap.size) (fun i _ hi => ⟨hi, fun h => by have := (HFT3.out i h).2; have := HBB.out; omega⟩))
      have HZ13 := Lib.hid (hL13.mono (ok' := fun i => w12.heap.size ≤ i ∧ i < w13.heap.size) fun i hi hlt => ⟨hi.1, hlt⟩)
      have hs13 : w12.heap.size ≤ w13.heap.size := hc13.size
      clear hv13 hc13 hL13 HV12 HR12 HOR12 HL11' HL12
      go_wp2_with fail
      refine (rFrom_any H12 (fun i => some i = (Value.slice A9 (m + 32) c9).ownBlock) w3.heap.size (.slice none 0 0) s3 A9 c9 (m + 32) ys w13 HOR13.out HYL.out hc9 (fun i hi h => HGE.out i h hi) (by omega) HR13.out (by omega)).mono ?_
      intro e w14 h14
      obtain ⟨v14, B14, G14, rfl, hB14, hl14, hr14, hc14, hg14⟩ := h14
      obtain ⟨A14, c14, rfl, _, _, hL14⟩ := hl14
      have HB14 : Hid (Below w.heap.size w w14) := ((Chg.of_below HB13.out H12).trans hc14 (fun i _ h => h)).below (Nat.le_refl _) (fun i hi e => by
        rcases HGD.out i e with h | h <;> omega)
      have HX14 := Lib.hid (HX13.out.chg hc14 (ok' := fun i => w10.heap.size ≤ i ∧ i < w11.heap.size) (fun i _ hi => ⟨hi, fun h => by
        rcases HGD.out i h with h | h <;> omega⟩))
      have HY14 := Lib.hid (HY13.out.chg hc14 (ok' := fun i => B12 ≤ i ∧ i < w12.heap.size) (fun i _ hi => ⟨hi, fun h => by
        have := HBB.out
        rcases HGD.out i h with h | h <;> omega⟩))
      have HZ14 := Lib.hid (HZ13.out.chg hc14 (ok' := fun i => w12.heap.size ≤ i ∧ i < w13.heap.size) (fun i _ hi => ⟨hi, fun h => by
        rcases HGD.out i h with h | h <;> omega⟩))
      have HW14 := Lib.hid hL14
      clear hB14 hr14 hc14 hg14 hL14 HR13 HOR13 HX13 HY13 HZ13
      obtain ⟨k2, hk2⟩ : ∃ k2, (fromOf s3 ys).1 = k2 := ⟨_, rfl⟩
      obtain ⟨l2, hl2⟩ : ∃ l2, (fromOf s3 ys).2 = l2 := ⟨_, rfl⟩
      rw [hk2, hl2]
      rw [hl2] at HZ14 HW14
      clear hk2 hl2
      obtain ⟨n1, hn1⟩ : ∃ n1, l1.length = n1 := ⟨_, rfl⟩
      obtain ⟨n2, hn2⟩ : ∃ n2, l2.length = n2 := ⟨_, rfl⟩
      rw [hn1, hn2]
      have HN1 := Lib.hid hn1
      have HN2 := Lib.hid hn2
      have hq1 : ((k1 : Int) == (k1 : Int)) = true := by simp
      have hq2 : ((k2 : Int) == (k2 : Int)) = true := by simp
      clear hn1 hn2
      go_wp2_with (first
        | (go_at_call 12
           with_reducible change Calls _ _ #[Value.slice A11 _ _, _] w14 _
           refine (Same_any A11 A12 c11 c12 n1 n1 l1 l1 w14 _ _ HX14.out HY14.out HN1.out HN1.out).mono ?_
           rintro e w15 ⟨rfl, q15, rfl⟩
           rw [(eqCs_iff l1 l1).2 rfl])
        | (go_at_call 12
           refine (Same_any A13 A14 c13 c14 n2 n2 l2 l2 (w14.drewN q15) _ _ (HZ14.out.move fun i hi _ => ⟨hi, rfl⟩) (HW14.out.move fun i hi _ => ⟨hi, rfl⟩) HN2.out HN2.out).mono ?_
           rintro e w16 ⟨rfl, q16, rfl⟩
           rw [(eqCs_iff l2 l2).2 rfl]))
      go_ret
      exact ⟨rfl, below_drewN HB14.out _⟩
  · rw [decide_eq_false hsm]
    go_wp2_with fail
    go_ret
    exact ⟨rfl, HB2.out⟩
end Go.Proofs.YtkenmpggblefiaaGreatDoor
