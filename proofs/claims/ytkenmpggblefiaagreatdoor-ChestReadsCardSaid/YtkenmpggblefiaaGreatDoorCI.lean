/- The walks of the law's helpers. -/
import Derived.Test.YtkenmpggblefiaaGreatDoorCH
namespace Go.Proofs.YtkenmpggblefiaaGreatDoor
open Go.RowKit
attribute [local go_sem ↓] Go.wp_at_zero Go.wp_at_succ

theorem mayTag_empty (w : World) : Calls Tryz.prog 32 #[.string ⟨#[]⟩] w fun e w' => e = .returned (.bool false) ∧ w' = w := by
  go_enter Tryz.func32, Tryz.ntmps32
  go_wp2_with fail
  go_ret
  exact ⟨rfl, rfl⟩
set_option maxHeartbeats 400000 in
theorem check_empty (v : Value) (w : World) : Calls Tryz.prog 16 #[v, .agg #[.string ⟨#[]⟩, .slice none 0 0, .slice none 0 0]] w fun e w' => e = .returned (.int .i64 1) ∧ Below w.heap.size w w' := by
  go_enter Tryz.func16, Tryz.ntmps16
  go_wp2_with (first | (go_at_call 32; refine (mayTag_empty _).mono ?_; rintro e w1 ⟨rfl, rfl⟩))
  go_ret
  exact ⟨rfl, below_new w _⟩
def crOf (ideal : Bool) : Cr := if ideal = true then .book [] else .real
def OfPost (ideal : Bool) (w : World) (e : Ending) (w' : World) : Prop := ∃ v b, e = .returned v ∧ CrIs w' v b (crOf ideal) ∧ Below w.heap.size w w' ∧ w.heap.size ≤ b
theorem of_any (ideal : Bool) (w : World) : Calls Tryz.prog 7 #[.bool ideal] w fun e w' => OfPost ideal w e w' := by
  cases ideal
  · go_enter Tryz.func7, Tryz.ntmps7
    go_wp2_with fail
    refine (Real_any w).mono ?_
    rintro e w1 ⟨rfl, rfl⟩
    go_wp2_with fail
    go_ret
    exact ⟨_, w.heap.size, rfl, rfl, Below.refl _ _, Nat.le_refl _⟩
  · go_enter Tryz.func7, Tryz.ntmps7
    go_wp2_with fail
    refine (Book_any w).mono ?_
    rintro e w1 ⟨p, b, rfl, hp, hb, hB, hbe⟩
    go_wp2_with fail
    go_ret
    exact ⟨_, b, rfl, ⟨p, _, rfl, hB⟩, hbe, hb⟩

theorem foot_eq {s : Cr} {b i : Nat} (h : s.foot b i) : i = b := by
  rcases s with _ | ts
  · exact h.elim
  · exact h
theorem from_nil (s : Cr) : fromOf s [] = (8, []) ∧ fromNext s [] = s := by
  have h : headBad [] = true := rfl
  unfold fromOf fromNext
  rw [if_pos h, if_pos h]
  exact ⟨rfl, rfl⟩
set_option maxHeartbeats 2000000 in
theorem awake_any (w : World) : Calls Tryz.prog 5 #[] w fun e w' => e = .returned (.bool true) ∧ Below w.heap.size w w' := by
  have hbig : ¬ bigL [] = true := by decide
  go_enter Tryz.func5, Tryz.ntmps5
  go_wp2_with fail
  refine (Book_any w).mono ?_
  rintro e w1 ⟨p, b, rfl, hp, hb, hB, hb1⟩
  have qn : ∀ (W : World) (T : TypeId) (u : Value), (binOp .eql 26 (.iface T u) .nilIface).run Tryz.prog W = .ok (.bool false) W := fun W T u => by kernel_rfl
  have hv1 : CrIs w1 (.iface 69 (.pointer (some ⟨p, 0, none⟩))) b (.book []) := ⟨p, _, rfl, hB⟩
  go_wp2_with fail
  generalize Value.iface 69 (.pointer (some ⟨p, 0, none⟩)) = v at *
  clear qn hB
  refine (Bytes_any v b (.book []) (by decide) none 0 0 [] w1 RowV.nil rfl (by decide) hv1).mono ?_
  intro e w2 h2
  unfold BytesPost at h2
  rw [if_neg hbig] at h2
  obtain ⟨x, rfl, hx, hv2, hc2⟩ := h2
  have hwl : (wrOf (.book []) []).length = 40 := by decide
  have hx3 : (bts (wrOf (.book []) []))[3]? = some (.int .u8 49) := rfl
  have hrb := read_back (.book []) hbig (by decide)
  have hs2 : ((Cr.book []).next (bodyOf [])).many ≤ 1 := cr_next_many _ _
  generalize (Cr.book []).next (bodyOf []) = s2 at *
  generalize wrOf (.book []) [] = ws at *
  rw [hwl] at hx
  obtain ⟨A, c, rfl, hO⟩ := ownB_of hx
  have hbl : b < w1.heap.size := hv1.foot_lt b rfl
  have HV1 := Lib.hid hv1
  have HV2 := Lib.hid hv2
  have HC2 := Lib.hid hc2
  have HO := Lib.hid hO
  have HRB := Lib.hid hrb
  have HWL := Lib.hid hwl
  have HX3 := Lib.hid hx3
  clear hx hv1 hv2 hc2 hO hrb hwl hx3
  go_wp2_with fail
  have hfoot : ∀ i, s2.foot b i → i = b := by
    intro i hi
    rcases s2 with _ | ts
    · exact hi.elim
    · exact hi
  refine (From_any (fun i => w1.heap.size ≤ i ∧ i < w2.heap.size) v b s2 A c 40 ws w2 (HO.out.row.mono fun i hi hlt => ⟨hi.1, hlt⟩) HWL.out HO.out.le (fun i hi => ⟨hi.2, fun h => by have := hfoot i h; omega⟩) (by omega) HV2.out (by omega)).mono ?_
  intro e w3 h3
  obtain ⟨v3, rfl, hsl, hv3, hc3⟩ := h3
  rw [HRB.out] at hsl ⊢
  obtain ⟨A3, c3, rfl, _, _, _⟩ := hsl
  have HV3 := Lib.hid hv3
  have HC3 := Lib.hid hc3
  have HO3 := Lib.hid (own_chg_ge HO.out.own hc3 (fun i hi => by have := hfoot i hi; omega))
  clear hv3 hc3
  have hs3 : (fromNext s2 ws).many ≤ 2 := by
    unfold fromNext
    split
    · omega
    · have := cr_next_many s2 (ws.take (ws.length - 32))
      omega
  have hfoot3 : ∀ i, (fromNext s2 ws).foot b i → i = b := fun i hi => foot_eq hi
  generalize fromNext s2 ws = s3 at *
  go_wp2_with fail
  refine (From_any (fun _ => False) v b s3 none 0 0 [] w3 RowV.nil rfl (Nat.le_refl _) (fun _ h => h.elim) (by omega) HV3.out (by omega)).mono ?_
  intro e w4 h4
  obtain ⟨v4, rfl, hsl4, hv4, hc4⟩ := h4
  rw [(from_nil s3).1] at hsl4 ⊢
  obtain ⟨A4, c4, rfl, _, _, _⟩ := hsl4
  have HC4 := Lib.hid hc4
  have HO4 := Lib.hid (own_chg_ge HO3.out hc4 (fun i hi => by have := hfoot3 i hi; omega))
  obtain ⟨ad, rfl⟩ := HO.out.some_ (by omega)
  obtain ⟨A', c', e4, hO4⟩ := ownB_of HO4.out
  cases e4
  have hc3 : w4.cell? ⟨ad.block, ad.off + 3, none⟩ = some (.int .u8 49) := hO4.cells ad rfl 3 _ HX3.out
  clear hv4 hc4 hO4
  have hbel : Below w.heap.size w w4 := by
    have h1 := (Chg.of_below hb1 (fun i => i = b)).trans HC2.out (fun i _ h => h)
    have h2 := h1.trans HC3.out (fun i _ h => hfoot i h)
    have h3 := h2.trans HC4.out (fun i _ h => hfoot3 i h)
    exact h3.none (fun i hi e => by omega)
  have HBEL := Lib.hid hbel
  clear hbel
  go_wp2_with (first | (go_at_call 16; refine (check_empty v w4).mono ?_; rintro e w5 ⟨rfl, hb5⟩))
  go_ret
  exact ⟨rfl, below_step HBEL.out HBEL.out.size hb5⟩
end Go.Proofs.YtkenmpggblefiaaGreatDoor
