/- The walks of the program's reading of lists. -/
import Derived.Test.YtkenmpggblefiaaGreatDoorCC
namespace Go.Proofs.YtkenmpggblefiaaGreatDoor
open Go.RowKit
attribute [local go_sem ↓] Go.wp_at_zero Go.wp_at_succ

/-- a row of rows that is read -/
def rows64 (bd : List UInt8) (st : Option Nat) : Option (List (List UInt8) × Nat) := (num bd 64 st).2.bind fun q => lys bd q (num bd 64 st).1
def SomePost (ok : Nat → Prop) (p : Nat) (bd : List UInt8) (st : Option Nat) (w : World) (e : Ending) (w' : World) : Prop :=
  ∃ v, e = .returned v ∧ w.grownBy w' (some p) ∧ match rows64 bd st with
    | some s => GrowV (Kn.sl Kn.byte) w' w.heap.size 33 [5] v s.1 ∧ RdSt ok w' p bd (some s.2)
    | none => v = .slice none 0 0 ∧ RdSt ok w' p bd none
theorem RdSt.bad {ok : Nat → Prop} {w : World} {p : Nat} {bd : List UInt8} {st : Option Nat} (h : RdSt ok w p bd st) : ∃ v, Blk w p 60 #[v, .bool st.isNone] := by
  rcases st with _ | q
  · obtain ⟨ys, hy, A, n, c, h1, h2, h3, h4⟩ := h
    exact ⟨_, h1⟩
  · obtain ⟨hq, A, n, c, h1, h2, h3, h4⟩ := h
    exact ⟨_, h1⟩
theorem num_le {bd : List UInt8} {most : Nat} {st : Option Nat} : (num bd most st).1 ≤ most ∧ ((num bd most st).2 = none → (num bd most st).1 = 0) ∧ ∀ q, (num bd most st).2 = some q → q ≤ bd.length := by
  rcases st with _ | q
  · exact ⟨Nat.zero_le _, fun _ => rfl, by simp [num]⟩
  · by_cases h : q + 4 > bd.length ∨ gB (bd.drop q) 4 > most
    · have e : num bd most (some q) = (0, none) := if_pos h
      rw [e]
      exact ⟨Nat.zero_le _, fun _ => rfl, by simp⟩
    · have e : num bd most (some q) = (gB (bd.drop q) 4, some (q + 4)) := if_neg h
      rw [e]
      refine ⟨by simp; omega, by simp, ?_⟩
      rintro z ⟨⟩
      omega

theorem grown_new {w w1 w2 : World} {p : Nat} {row : Option Nat} (h : w.grownBy w1 (some p)) (k : w1.grownBy w2 row) (hr : ∀ b, row = some b → w.heap.size ≤ b) : w.grownBy w2 (some p) :=
  ⟨k.os.trans h.os, k.tape.trans h.tape, k.output.trans h.output, Nat.le_trans h.size k.size, fun i hi hne => (k.block i (Nat.lt_of_lt_of_le hi h.size) (fun e => by have := hr i e.symm; omega)).trans (h.block i hi hne)⟩
theorem RdSt.grow {ok : Nat → Prop} {w w' : World} {p : Nat} {bd : List UInt8} {st : Option Nat} {row : Option Nat} {B : Nat} {e : TypeId} (h : RdSt ok w p bd st) (k : w.grownBy w' row) (hr : ∀ b, row = some b → B ≤ b ∧ ∃ cur, Blk w b e cur) (he : e ≠ 60) (hok : ∀ b, ok b → b < B) : RdSt ok w' p bd st := by
  obtain ⟨v, hv⟩ := h.bad
  refine h.chg (Chg.of_grown k) (fun e1 => ?_) (fun b hb e1 => ?_)
  · obtain ⟨_, cur, hc⟩ := hr p e1.symm
    exact Blk.ne_ hc hv he rfl
  · have := (hr b e1.symm).1
    have := hok b hb
    omega
theorem tkO_of {bd : List UInt8} {z z' : Nat} (h : tkAt bd (some z) = some z') : tkO bd (some z) = some (tkRow bd (some z), z') := by
  unfold tkAt at h
  unfold tkRow
  rcases ht : tkO bd (some z) with _ | t
  · rw [ht] at h; simp at h
  · rw [ht] at h
    simp at h
    subst h
    rfl
theorem tkO_none {bd : List UInt8} {z : Nat} (h : tkAt bd (some z) = none) : tkO bd (some z) = none := by
  unfold tkAt at h
  rcases ht : tkO bd (some z) with _ | t
  · rfl
  · rw [ht] at h; simp at h

set_option maxHeartbeats 1000000 in
theorem someRow_any (ok : Nat → Prop) (p : Nat) (bd : List UInt8) (st : Option Nat) (w : World) (h : RdSt ok w p bd st) (hok : ¬ ok p) (hok2 : ∀ b, ok b → b < w.heap.size) (hbd : bd.length < 1000000000) :
    Calls Tryz.prog 45 #[.pointer (some ⟨p, 0, none⟩), .int .i64 64, Value.func (.func 44) #[.pointer (some ⟨p, 0, none⟩)] #[]] w fun e w' => SomePost ok p bd st w e w' := by
  go_enter Tryz.func45, Tryz.ntmps45
  go_wp2_with fail
  refine (rnumber_any ok p bd st 64 w h hok hbd (by omega)).mono ?_
  rintro e w1 ⟨rfl, h5, h6⟩
  obtain ⟨m, hm⟩ : ∃ m, (num bd 64 st).1 = m := ⟨_, rfl⟩
  obtain ⟨o, ho⟩ : ∃ o, (num bd 64 st).2 = o := ⟨_, rfl⟩
  have hml : m ≤ 64 := by rw [← hm]; exact num_le.1
  have hmz : o = none → m = 0 := by rw [← hm, ← ho]; exact num_le.2.1
  have hq0 : ∀ q, o = some q → q ≤ bd.length := by rw [← ho]; exact num_le.2.2
  rw [hm]
  rw [ho] at h5
  have hps : p < w.heap.size := h.lt
  have HM := Lib.hid hm
  have HO := Lib.hid ho
  have H5 := Lib.hid h5
  have H6 := Lib.hid h6
  clear h hm ho h5 h6
  rcases o with _ | q0
  · obtain rfl : m = 0 := hmz rfl
    have hres : rows64 bd st = none := by unfold rows64; rw [HO.out]; rfl
    have HR := Lib.hid hres
    have hd : decide (((0 : Nat) : Int) < ((0 : Nat) : Int)) = false := rfl
    clear hres hmz hq0
    go_wp2_with fail
    go_loopw [7, 11] (fun v i wr => v = .slice none 0 0 ∧ i = .int .i64 0 ∧ wr = w1) (fun _ _ _ => 0)
    case atStart => exact ⟨rfl, rfl, rfl⟩
    case round =>
      obtain ⟨rfl, rfl, rfl⟩ := hrel
      go_wp2_with fail
      go_ret
      refine ⟨_, rfl, H6.out, ?_⟩
      rw [HR.out]
      exact ⟨rfl, H5.out⟩
  · have hres : rows64 bd st = lys bd q0 m := by unfold rows64; rw [HO.out, HM.out]; rfl
    have HR := Lib.hid hres
    have hq0b := hq0 q0 rfl
    clear hres hmz hq0
    go_wp2_with fail
    go_loopw [7, 11] (fun v i wr => ∃ (j z : Nat) (ls : List (List UInt8)), j ≤ m ∧ i = .int .i64 (j : Nat) ∧ Hid (lys bd q0 j = some (ls, z)) ∧ GrowV (Kn.sl Kn.byte) wr w.heap.size 33 [5] v ls ∧ RdSt ok wr p bd (some z) ∧ w.grownBy wr (some p)) (fun _ i _ => m - (intOf i).toNat)
    case atStart => exact ⟨0, q0, [], by omega, rfl, rfl, GrowV.nil .., H5.out, H6.out⟩
    case round =>
      obtain ⟨j, z, ls, hj, rfl, HL, hgv, hrd, hgr⟩ := hrel
      obtain ⟨Av, cv, rfl⟩ := hgv.form
      have hll : ls.length = j := (lys_le hq0b HL.out).2
      have HLL := Lib.hid hll
      clear hll
      have HGV := Lib.hid hgv
      have HRD := Lib.hid hrd
      have HGR := Lib.hid hgr
      clear hgv hrd hgr
      by_cases hlt : j < m
      · have hd := hd_lt_t hlt
        go_wp2_with fail
        refine (rrow2_any ok p bd (some z) wr HRD.out hok hbd).mono ?_
        intro e w2 h2
        obtain ⟨v2, rfl, ho2, hr2, hg2⟩ := h2
        obtain ⟨t, ht⟩ : ∃ t, tkRow bd (some z) = t := ⟨_, rfl⟩
        obtain ⟨nt, hnt⟩ : ∃ nt, t.length = nt := ⟨_, rfl⟩
        rw [ht, hnt] at ho2
        obtain ⟨A2, c2, rfl, hO2⟩ := ownB_of ho2
        obtain ⟨vp, hvp⟩ := HRD.out.bad
        have hgv2 : GrowV (Kn.sl Kn.byte) w2 w.heap.size 33 [5] (.slice Av ls.length cv) ls := HGV.out.chgT (Chg.of_grown hg2) (fun i hi _ => by
          cases hi
          exact ⟨_, _, by decide, hvp⟩)
        have hbw := below_new w2 (.cells #[.slice A2 nt c2] 33)
        have HGW : Hid (GrowV (Kn.sl Kn.byte) (w2.alloc (.cells #[.slice A2 nt c2] 33)) w.heap.size 33 [5] (.slice Av ls.length cv) ls) := hgv2.below hbw
        have HKW : Hid ((Kn.sl Kn.byte).K (w2.alloc (.cells #[.slice A2 nt c2] 33)) (okT w.heap.size [5] (w2.alloc (.cells #[.slice A2 nt c2] 33))) t [.slice A2 nt c2]) :=
          ⟨_, rfl, (hO2.kept hbw).slT (by simp) HGR.out.size⟩
        have hsz2 : w.heap.size ≤ w2.heap.size := Nat.le_trans HGR.out.size hg2.size
        have hbsz : w.heap.size ≤ (w2.alloc (.cells #[.slice A2 nt c2] 33)).heap.size := Nat.le_trans hsz2 hbw.size
        have hrw := hr2.below hbw
        have hgrw : w.grownBy (w2.alloc (.cells #[.slice A2 nt c2] 33)) (some p) := grown_below (grown_trans HGR.out hg2) hbw
        have HRW := Lib.hid hrw
        have HGRW := Lib.hid hgrw
        have HT := Lib.hid ht
        clear ht hnt ho2 hr2 hg2 hvp hgv2 hbw hrw hgrw hO2
        obtain ⟨o2, ho2⟩ : ∃ o2, tkAt bd (some z) = o2 := ⟨_, rfl⟩
        rw [ho2] at HRW
        have HO2 := Lib.hid ho2
        have hll2 : ls.length + 1 ≤ 65 := by have := HLL.out; omega
        clear ho2
        rcases o2 with _ | z'
        · have h9 : lys bd q0 (j + 1) = none := by
            rw [lys, HL.out]
            simp [tkO_none HO2.out]
          have hp : rows64 bd st = none := by rw [HR.out]; exact lys_none h9 m (by omega)
          have HP := Lib.hid hp
          clear hp h9
          go_wp2_with (first
            | (with_reducible change wpList _ _ _ ({ dst := some 17, op := _, type := _, pos := _, after := _, guard := _ } :: _) _ _
               go_must (refine wpList_grow rfl (.tmp 13) (.tmp 16) 29 rfl w.heap.size 33 (.slice none 0 0) 1 24 Tryz.underlying29 (by kernel_rfl) rfl (Kn.sl Kn.byte) rfl (by omega) [5] (by decide) (.slice Av ls.length cv) ls t [.slice A2 nt c2] w2.heap.size (Blk.new w2 _ _) rfl rfl HGW.out HKW.out (by simp only [maxLen]; omega) (by omega) hbsz ?_)
               intro v3 w3 hg3 hgr3 hbk3
               have hrd3 := HRW.out.grow hgr3 hbk3 (by decide) hok2
               obtain ⟨vp3, hvp3⟩ := hrd3.bad
               have hk3 : w3.cell? ⟨p, 1, none⟩ = some (.bool true) := hvp3.cell 1
               have HRD3 := Lib.hid hrd3
               have HG3 := Lib.hid hg3
               have HGR3 := Lib.hid (grown_new HGRW.out hgr3 (fun b hb => (hbk3 b hb).1))
               clear hrd3 hvp3 hg3 hgr3 hbk3))
          go_ret
          refine ⟨_, rfl, HGR3.out, ?_⟩
          rw [HP.out]
          exact ⟨rfl, HRD3.out⟩
        · skip
          go_wp2_with (first
            | (with_reducible change wpList _ _ _ ({ dst := some 17, op := _, type := _, pos := _, after := _, guard := _ } :: _) _ _
               go_must (refine wpList_grow rfl (.tmp 13) (.tmp 16) 29 rfl w.heap.size 33 (.slice none 0 0) 1 24 Tryz.underlying29 (by kernel_rfl) rfl (Kn.sl Kn.byte) rfl (by omega) [5] (by decide) (.slice Av ls.length cv) ls t [.slice A2 nt c2] w2.heap.size (Blk.new w2 _ _) rfl rfl HGW.out HKW.out (by simp only [maxLen]; omega) (by omega) hbsz ?_)
               intro v3 w3 hg3 hgr3 hbk3
               have hrd3 := HRW.out.grow hgr3 hbk3 (by decide) hok2
               obtain ⟨vp3, hvp3⟩ := hrd3.bad
               have hk3 : w3.cell? ⟨p, 1, none⟩ = some (.bool false) := hvp3.cell 1
               have HRD3 := Lib.hid hrd3
               have HG3 := Lib.hid hg3
               have HGR3 := Lib.hid (grown_new HGRW.out hgr3 (fun b hb => (hbk3 b hb).1))
               clear hrd3 hvp3 hg3 hgr3 hbk3))
          go_roundw
          case measure => simp [intOf]; omega
          case rel =>
            refine ⟨j + 1, z', ls ++ [t], by omega, by go_num, ?_, HG3.out, HRD3.out, HGR3.out⟩
            show _ = _
            rw [lys, HL.out]
            have := tkO_of HO2.out
            rw [HT.out] at this
            simp [this]
      · have hd := hd_lt_f hlt
        obtain rfl : j = m := by omega
        go_wp2_with fail
        go_ret
        refine ⟨_, rfl, HGR.out, ?_⟩
        rw [HR.out, HL.out]
        exact ⟨HGV.out, HRD.out⟩
end Go.Proofs.YtkenmpggblefiaaGreatDoor
