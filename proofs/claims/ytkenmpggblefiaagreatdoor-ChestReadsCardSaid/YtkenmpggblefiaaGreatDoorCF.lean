/- The walks of the program's reading of all. -/
import Derived.Test.YtkenmpggblefiaaGreatDoorCE
namespace Go.Proofs.YtkenmpggblefiaaGreatDoor
open Go.RowKit
attribute [local go_sem ↓] Go.wp_at_zero Go.wp_at_succ

def chests1024 (bd : List UInt8) (st : Option Nat) : Option (List Chest × Nat) := (num bd 1024 st).2.bind fun q => chs bd q (num bd 1024 st).1
def SomeCPost (ok : Nat → Prop) (p : Nat) (bd : List UInt8) (st : Option Nat) (w : World) (e : Ending) (w' : World) : Prop :=
  ∃ v, e = .returned v ∧ w.grownBy w' (some p) ∧ match chests1024 bd st with
    | some s => GrowV kChest w' w.heap.size 49 [33, 5] v s.1 ∧ RdSt ok w' p bd (some s.2)
    | none => v = .slice none 0 0 ∧ RdSt ok w' p bd none
theorem tkCO_none {bd : List UInt8} {z : Nat} (h : (tkCO bd (some z)).map Prod.snd = none) : tkChest bd z = none := by
  rcases ht : tkChest bd z with _ | t
  · rfl
  · have : tkCO bd (some z) = some t := ht
    rw [this] at h; simp at h
theorem tkCO_of {bd : List UInt8} {z z' : Nat} (h : (tkCO bd (some z)).map Prod.snd = some z') : ∃ s, tkCO bd (some z) = some s ∧ s.2 = z' := by
  rcases ht : tkCO bd (some z) with _ | t
  · rw [ht] at h; simp at h
  · rw [ht] at h
    simp at h
    exact ⟨t, rfl, h⟩

set_option maxHeartbeats 1000000 in
theorem someChest_any (ok : Nat → Prop) (p : Nat) (bd : List UInt8) (st : Option Nat) (w : World) (h : RdSt ok w p bd st) (hok : ¬ ok p) (hok2 : ∀ b, ok b → b < w.heap.size) (hbd : bd.length < 1000000000) :
    Calls Tryz.prog 25 #[.pointer (some ⟨p, 0, none⟩), .int .i64 1024, Value.func (.func 26) #[.pointer (some ⟨p, 0, none⟩)] #[]] w fun e w' => SomeCPost ok p bd st w e w' := by
  go_enter Tryz.func25, Tryz.ntmps25
  go_wp2_with fail
  refine (rnumber_any ok p bd st 1024 w h hok hbd (by omega)).mono ?_
  rintro e w1 ⟨rfl, h5, h6⟩
  obtain ⟨m, hm⟩ : ∃ m, (num bd 1024 st).1 = m := ⟨_, rfl⟩
  obtain ⟨o, ho⟩ : ∃ o, (num bd 1024 st).2 = o := ⟨_, rfl⟩
  have hml : m ≤ 1024 := by rw [← hm]; exact num_le.1
  have hmz : o = none → m = 0 := by rw [← hm, ← ho]; exact num_le.2.1
  have hq0 : ∀ q, o = some q → q ≤ bd.length := by rw [← ho]; exact num_le.2.2
  rw [hm]
  rw [ho] at h5
  have hps : p < w.heap.size := h.lt
  have HM := Lib.hid hm
  have HO := Lib.hid ho
  have H5 := Lib.hid h5
  have H6 := Lib.hid h6
  clear h hm ho h5 h6
  rcases o with _ | q0
  · obtain rfl : m = 0 := hmz rfl
    have hres : chests1024 bd st = none := by unfold chests1024; rw [HO.out]; rfl
    have HR := Lib.hid hres
    have hd : decide (((0 : Nat) : Int) < ((0 : Nat) : Int)) = false := rfl
    clear hres hmz hq0
    go_wp2_with fail
    go_loopw [7, 11] (fun v i wr => v = .slice none 0 0 ∧ i = .int .i64 0 ∧ wr = w1) (fun _ _ _ => 0)
    case atStart => exact ⟨rfl, rfl, rfl⟩
    case round =>
      obtain ⟨rfl, rfl, rfl⟩ := hrel
      go_wp2_with fail
      go_ret
      refine ⟨_, rfl, H6.out, ?_⟩
      rw [HR.out]
      exact ⟨rfl, H5.out⟩
  · have hres : chests1024 bd st = chs bd q0 m := by unfold chests1024; rw [HO.out, HM.out]; rfl
    have HR := Lib.hid hres
    have hq0b := hq0 q0 rfl
    clear hres hmz hq0
    go_wp2_with fail
    go_loopw [7, 11] (fun v i wr => ∃ (j z : Nat) (ls : List Chest), j ≤ m ∧ i = .int .i64 (j : Nat) ∧ Hid (chs bd q0 j = some (ls, z)) ∧ GrowV kChest wr w.heap.size 49 [33, 5] v ls ∧ RdSt ok wr p bd (some z) ∧ w.grownBy wr (some p)) (fun _ i _ => m - (intOf i).toNat)
    case atStart => exact ⟨0, q0, [], by omega, rfl, rfl, GrowV.nil .., H5.out, H6.out⟩
    case round =>
      obtain ⟨j, z, ls, hj, rfl, HL, hgv, hrd, hgr⟩ := hrel
      obtain ⟨Av, cv, rfl⟩ := hgv.form
      have hll : ls.length = j := (chs_le hq0b HL.out).2
      have HLL := Lib.hid hll
      clear hll
      have HGV := Lib.hid hgv
      have HRD := Lib.hid hrd
      have HGR := Lib.hid hgr
      clear hgv hrd hgr
      by_cases hlt : j < m
      · have hd := hd_lt_t hlt
        go_wp2_with fail
        refine (rchest_any ok p bd (some z) wr HRD.out hok (fun b hb => by have := hok2 b hb; have := HGR.out.size; omega) hbd).mono ?_
        intro e w2 h2
        obtain ⟨v1, v2, x, rfl, hkx, hr2, hg2, hcon⟩ := h2
        obtain ⟨u1, u2, e3, htl, ⟨A1, c1, rfl, hl1, hl2, hl3⟩, ⟨A2, c2, rfl, hl4, hl5, hl6⟩⟩ := hkx
        obtain ⟨rfl, rfl⟩ : Value.slice A1 x.text.length c1 = v1 ∧ Value.slice A2 x.layers.length c2 = v2 := by
          simp at e3
          exact ⟨e3.1.symm, e3.2.symm⟩
        clear e3
        obtain ⟨n1, hn1⟩ : ∃ n1, x.text.length = n1 := ⟨_, rfl⟩
        obtain ⟨n2, hn2⟩ : ∃ n2, x.layers.length = n2 := ⟨_, rfl⟩
        obtain ⟨vp, hvp⟩ := HRD.out.bad
        have hgv2 : GrowV kChest w2 w.heap.size 49 [33, 5] (.slice Av ls.length cv) ls := HGV.out.chgT (Chg.of_grown hg2) (fun i hi _ => by
          cases hi
          exact ⟨_, _, by decide, hvp⟩)
        have hbw := below_new w2 (.cells #[.string (bs x.tag), .slice A1 x.text.length c1, .slice A2 x.layers.length c2] 49)
        have hkw : kChest.K (w2.alloc (.cells #[.string (bs x.tag), .slice A1 x.text.length c1, .slice A2 x.layers.length c2] 49)) (okT w.heap.size [33, 5] (w2.alloc (.cells #[.string (bs x.tag), .slice A1 x.text.length c1, .slice A2 x.layers.length c2] 49))) x [.string (bs x.tag), .slice A1 x.text.length c1, .slice A2 x.layers.length c2] :=
          kChest.move (fun b hb hlt => ⟨(hb.chg (Chg.of_below hbw (fun _ => False)) (fun h => h)).base HGR.out.size, hbw.block b hlt⟩) ⟨_, _, rfl, htl, ⟨A1, c1, rfl, hl1, hl2, hl3⟩, ⟨A2, c2, rfl, hl4, hl5, hl6⟩⟩
        clear htl hl1 hl2 hl3 hl4 hl5 hl6
        rw [hn1, hn2] at hkw hbw
        rw [hn1, hn2]
        have HKW := Lib.hid hkw
        have HGW : Hid (GrowV kChest (w2.alloc (.cells #[.string (bs x.tag), .slice A1 n1 c1, .slice A2 n2 c2] 49)) w.heap.size 49 [33, 5] (.slice Av ls.length cv) ls) := hgv2.below hbw
        clear hkw
        have hsz2 : w.heap.size ≤ w2.heap.size := Nat.le_trans HGR.out.size hg2.size
        have hbsz : w.heap.size ≤ (w2.alloc (.cells #[.string (bs x.tag), .slice A1 n1 c1, .slice A2 n2 c2] 49)).heap.size := Nat.le_trans hsz2 hbw.size
        have hrw := hr2.below hbw
        have hgrw : w.grownBy (w2.alloc (.cells #[.string (bs x.tag), .slice A1 n1 c1, .slice A2 n2 c2] 49)) (some p) := grown_below (grown_trans HGR.out hg2) hbw
        have HRW := Lib.hid hrw
        have HGRW := Lib.hid hgrw
        have HCON := Lib.hid hcon
        clear hn1 hn2 hr2 hg2 hvp hgv2 hbw hrw hgrw hcon
        obtain ⟨o2, ho2⟩ : ∃ o2, (tkCO bd (some z)).map Prod.snd = o2 := ⟨_, rfl⟩
        rw [ho2] at HRW
        have HO2 := Lib.hid ho2
        have hll2 : ls.length + 1 ≤ 1025 := by have := HLL.out; omega
        clear ho2
        rcases o2 with _ | z'
        · have h9 : chs bd q0 (j + 1) = none := by
            rw [chs, HL.out]
            simp [tkCO_none HO2.out]
          have hp : chests1024 bd st = none := by rw [HR.out]; exact chs_none h9 m (by omega)
          have HP := Lib.hid hp
          clear hp h9
          go_wp2_with (first
            | (with_reducible change wpList _ _ _ ({ dst := some 17, op := _, type := _, pos := _, after := _, guard := _ } :: _) _ _
               go_must (refine wpList_grow rfl (.tmp 13) (.tmp 16) 22 rfl w.heap.size 49 (.agg #[.string ⟨#[]⟩, .slice none 0 0, .slice none 0 0]) 3 64 Tryz.underlying22 (by kernel_rfl) rfl kChest rfl (by omega) [33, 5] (by decide) (.slice Av ls.length cv) ls x [.string (bs x.tag), .slice A1 n1 c1, .slice A2 n2 c2] w2.heap.size (Blk.new w2 _ _) rfl rfl HGW.out HKW.out (by simp only [maxLen]; omega) (by omega) hbsz ?_)
               intro v3 w3 hg3 hgr3 hbk3
               have hrd3 := HRW.out.grow hgr3 hbk3 (by decide) hok2
               obtain ⟨vp3, hvp3⟩ := hrd3.bad
               have hk3 : w3.cell? ⟨p, 1, none⟩ = some (.bool true) := hvp3.cell 1
               have HRD3 := Lib.hid hrd3
               have HG3 := Lib.hid hg3
               have HGR3 := Lib.hid (grown_new HGRW.out hgr3 (fun b hb => (hbk3 b hb).1))
               clear hrd3 hvp3 hg3 hgr3 hbk3))
          go_ret
          refine ⟨_, rfl, HGR3.out, ?_⟩
          rw [HP.out]
          exact ⟨rfl, HRD3.out⟩
        · skip
          go_wp2_with (first
            | (with_reducible change wpList _ _ _ ({ dst := some 17, op := _, type := _, pos := _, after := _, guard := _ } :: _) _ _
               go_must (refine wpList_grow rfl (.tmp 13) (.tmp 16) 22 rfl w.heap.size 49 (.agg #[.string ⟨#[]⟩, .slice none 0 0, .slice none 0 0]) 3 64 Tryz.underlying22 (by kernel_rfl) rfl kChest rfl (by omega) [33, 5] (by decide) (.slice Av ls.length cv) ls x [.string (bs x.tag), .slice A1 n1 c1, .slice A2 n2 c2] w2.heap.size (Blk.new w2 _ _) rfl rfl HGW.out HKW.out (by simp only [maxLen]; omega) (by omega) hbsz ?_)
               intro v3 w3 hg3 hgr3 hbk3
               have hrd3 := HRW.out.grow hgr3 hbk3 (by decide) hok2
               obtain ⟨vp3, hvp3⟩ := hrd3.bad
               have hk3 : w3.cell? ⟨p, 1, none⟩ = some (.bool false) := hvp3.cell 1
               have HRD3 := Lib.hid hrd3
               have HG3 := Lib.hid hg3
               have HGR3 := Lib.hid (grown_new HGRW.out hgr3 (fun b hb => (hbk3 b hb).1))
               clear hrd3 hvp3 hg3 hgr3 hbk3))
          go_roundw
          case measure => simp [intOf]; omega
          case rel =>
            refine ⟨j + 1, z', ls ++ [x], by omega, by go_num, ?_, HG3.out, HRD3.out, HGR3.out⟩
            show _ = _
            rw [chs, HL.out]
            obtain ⟨s, hs, h2⟩ := tkCO_of HO2.out
            have h1 := HCON.out s hs
            have hs' : tkChest bd z = some s := hs
            simp [hs', h1, h2]
      · have hd := hd_lt_f hlt
        obtain rfl : j = m := by omega
        go_wp2_with fail
        go_ret
        refine ⟨_, rfl, HGR.out, ?_⟩
        rw [HR.out, HL.out]
        exact ⟨HGV.out, HRD.out⟩
end Go.Proofs.YtkenmpggblefiaaGreatDoor
