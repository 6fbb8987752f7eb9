/- The walks of the program's writing of chests. -/
import Derived.Test.YtkenmpggblefiaaGreatDoorC5
namespace Go.Proofs.YtkenmpggblefiaaGreatDoor
open Go.RowKit
attribute [local go_sem ↓] Go.wp_at_zero Go.wp_at_succ

theorem Acc.below {w w' : World} {base : Nat} {e : TypeId} {size n : Nat} {v : Value} {xs : List Value} (h : Acc w base e size v n xs) (hb : Below w.heap.size w w') : Acc w' base e size v n xs := by
  rcases h with h | ⟨h1, h2, h3, ad, rfl, h4, h5⟩
  · exact .inl (own_chg h (Chg.of_below hb (fun _ => False)) (fun _ _ h => h))
  · exact .inr ⟨h1, h2, h3, ad, rfl, h4, fun j u hu => cellB (h5 j u hu) hb⟩
/-- a writer at block p that has written ys, all its blocks of G; Acc: its row may be a constant's -/
structure WrAcc (G : Nat → Prop) (w : World) (p : Nat) (v : Value) (ys : List UInt8) : Prop where
  head : Blk w p 54 #[v]
  acc : Acc w 0 5 1 v ys.length (bts ys)
  gp : G p
  gv : ∀ g, v.ownBlock = some g → G g
  ne : v.ownBlock ≠ some p
def WrAt (G : Nat → Prop) (w : World) (p : Nat) (ys : List UInt8) : Prop := ∃ v, Blk w p 54 #[v] ∧ w.ownsRow 0 5 1 v ys.length (bts ys) ∧ G p ∧ ∀ g, v.ownBlock = some g → G g
theorem WrAt.acc {G : Nat → Prop} {w : World} {p : Nat} {ys : List UInt8} (h : WrAt G w p ys) : ∃ v, WrAcc G w p v ys := by
  obtain ⟨v, h1, h2, h3, h4⟩ := h
  exact ⟨v, h1, .inl h2, h3, h4, own_blk_ne h2 h1 (by decide)⟩
theorem WrAt.mono {G G' : Nat → Prop} {w : World} {p : Nat} {ys : List UInt8} (h : WrAt G w p ys) (hG : ∀ b, b < w.heap.size → G b → G' b) : WrAt G' w p ys := by
  obtain ⟨v, h1, h2, h3, h4⟩ := h
  exact ⟨v, h1, h2, hG _ h1.lt h3, fun g hg => hG g (h2.lt g hg).2 (h4 g hg)⟩
theorem WrAt.below {G : Nat → Prop} {w w' : World} {p : Nat} {ys : List UInt8} (h : WrAt G w p ys) (hb : Below w.heap.size w w') : WrAt G w' p ys := by
  obtain ⟨v, h1, h2, h3, h4⟩ := h
  exact ⟨v, h1.step hb, own_chg h2 (Chg.of_below hb (fun _ => False)) (fun _ _ h => h), h3, h4⟩
/-- what a writing leaves -/
def WrPost (G : Nat → Prop) (p : Nat) (ys : List UInt8) (w : World) (e : Ending) (w' : World) : Prop :=
  e = .returned (.tuple #[]) ∧ ∃ G', WrAt G' w' p ys ∧ Chg G w w' ∧ ∀ b, G' b → G b ∨ (w.heap.size ≤ b ∧ b < w'.heap.size)

theorem wr_push {G : Nat → Prop} {w w3 w4 : World} {p m k c4 : Nat} {v : Value} {ys xs : List UInt8} {A4 : Option Addr} (hm : ys.length = m) (hk : xs.length = k) (gp : G p) (gv : ∀ g, v.ownBlock = some g → G g)
    (HD4 : Blk w4 p 54 #[v]) (HO4 : w4.ownsRow 0 5 1 (.slice A4 (m + k) c4) (m + k) (bts ys ++ bts xs)) (C3 : Chg G w w3) (HG4 : w3.grownBy w4 v.ownBlock)
    (HAT : (Value.slice A4 (m + k) c4).ownBlock = v.ownBlock ∨ (Value.slice A4 (m + k) c4).ownBlock = some w3.heap.size) :
    WrPost G p (ys ++ xs) w (.returned (.tuple #[])) (w4.setCell ⟨p, 0, none⟩ (.slice A4 (m + k) c4)) := by
  have hs : (w4.setCell ⟨p, 0, none⟩ (.slice A4 (m + k) c4)).heap.size = w4.heap.size := by simp [World.setCell]
  refine ⟨rfl, fun b => G b ∨ (w.heap.size ≤ b ∧ b < w4.heap.size), ⟨_, HD4.set_ 0 _, ?_, .inl gp, ?_⟩, ?_, fun b hb => by rw [hs]; exact hb⟩
  · rw [List.length_append, hm, hk, bts_append]
    exact own_chg HO4 (chg_setCell (Chg.refl (fun i => i = p) w4) (.inl rfl) _) (fun g hg e => own_blk_ne HO4 HD4 (by decide) (by rw [hg, e]))
  · intro g hg
    rcases HAT with h9 | h9
    · exact .inl (gv g (h9.symm.trans hg))
    · have := (HO4.lt g hg).2
      rw [h9] at hg
      have := C3.size
      cases hg
      exact .inr ⟨by omega, by omega⟩
  · refine chg_setCell (C3.trans (Chg.of_grown HG4) (fun i _ hi => gv i hi.symm)) (.inl gp) _
theorem WrPost.trans {G G1 : Nat → Prop} {w w1 w2 : World} {e : Ending} {p : Nat} {zs : List UInt8} (h : WrPost G1 p zs w1 e w2) (hc : Chg G w w1) (hG : ∀ b, G1 b → G b ∨ (w.heap.size ≤ b ∧ b < w1.heap.size)) : WrPost G p zs w e w2 := by
  obtain ⟨h1, G', h2, h3, h4⟩ := h
  refine ⟨h1, G', h2, hc.trans h3 (fun i hi hg => ?_), fun b hb => ?_⟩
  · rcases hG i hg with h | h
    · exact h
    · omega
  · rcases h4 b hb with h | h
    · rcases hG b h with h | h
      · exact .inl h
      · have := h3.size
        exact .inr (by omega)
    · have := hc.size
      exact .inr (by omega)

set_option maxHeartbeats 400000 in
set_option maxRecDepth 100000 in
theorem number_any (G : Nat → Prop) (p : Nat) (v : Value) (ys : List UInt8) (m n : Nat) (w : World) (h : WrAcc G w p v ys) (hm : ys.length = m) (hmb : m < 1000000000000) (hn : n < 4294967296) :
    Calls Tryz.prog 37 #[.pointer (some ⟨p, 0, none⟩), .int .i64 n] w fun e w' => WrPost G p (ys ++ beB n 4) w e w' := by
  have hc0 : w.cell? ⟨p, 0, none⟩ = some v := h.head.cell 0
  have hf0 := h.head.frozen 0
  have H := Lib.hid h
  have HM := Lib.hid hm
  have ew : IntKind.u32.wrap (n : Int) = (n : Int) := IntWalk.u32_in _ (by omega)
  clear h hm
  go_enter Tryz.func37, Tryz.ntmps37
  go_wp2_with fail
  go_region_law (first
    | (refine step_append_acc (by rfl) (.tmp 8) (.tmp 11) 33 (by rfl) 0 5 (.int .u8 0) 1 1 Tryz.underlying33 Tryz.info5 rfl (by omega) v m (bts ys) (by rfl) HA3.out A3 4 c3 (bts (beB n 4)) (by rfl) HX3.out.blen HX3.out.some_ HX3.out.cells (bts_one _) (by simp only [maxLen]; omega) (by omega) (by omega) ?_
       intro v4 w4 _ hown4 hg4 hat4 _
       have hown4 := hown4 (by omega)
       obtain ⟨A4, c4, rfl⟩ := own_form hown4
       have hd4 := Blk.grown (HD3.out) hg4 (fun e => H.out.ne e.symm)
       have hc4 : w4.cell? ⟨p, 0, none⟩ = some v := hd4.cell 0
       have hf4 : w4.frozen? ⟨p, 0, none⟩ = false := hd4.frozen 0
       have hlt4 : p < w4.heap.size := hd4.lt
       have HD4 := Lib.hid hd4
       have HO4 := Lib.hid hown4
       have HG4 := Lib.hid hg4
       have HAT4 := Lib.hid hat4
       clear hd4 hown4 hg4 hat4)
    | (go_simp; go_at_call 58
       refine (Big32_any n _ hn).mono ?_
       rintro e w3 ⟨x, rfl, hx, hb3⟩
       obtain ⟨A3, c3, rfl, h3⟩ := ownB_of hx
       have hb3' : Below w.heap.size w w3 := ((Below.refl w.heap.size w).drew).trans hb3
       have hd3 := H.out.head.step hb3'
       have hc3 : w3.cell? ⟨p, 0, none⟩ = some v := hd3.cell 0
       have HD3 := Lib.hid hd3
       have HB3 := Lib.hid hb3'
       have HX3 := Lib.hid h3.has
       have HA3 := Lib.hid (show Acc w3 0 5 1 v m (bts ys) by have := H.out.acc.below hb3'; rwa [HM.out] at this)
       clear hx h3 hb3 hb3' hd3)
    | fail)
  all_goals (
    go_wp2_with fail
    go_end0
    exact wr_push HM.out (by rw [beB_length]) H.out.gp H.out.gv HD4.out HO4.out (Chg.of_below HB3.out G) HG4.out HAT4.out)

set_option maxHeartbeats 400000 in
theorem row_any (G ok : Nat → Prop) (p : Nat) (ys : List UInt8) (m : Nat) (A : Option Addr) (c n : Nat) (xs : List UInt8) (w : World) (h : WrAt G w p ys) (hm : ys.length = m) (hmb : m < 100000000000) (hx : RowV Kn.byte w ok A xs) (hn : xs.length = n) (hok : ∀ b, ok b → ¬ G b) (hnb : n < 1000000000) :
    Calls Tryz.prog 38 #[.pointer (some ⟨p, 0, none⟩), .slice A n c] w fun e w' => WrPost G p (ys ++ rowOf xs) w e w' := by
  obtain ⟨v, ha⟩ := h.acc
  have HX := Lib.hid hx
  have HN := Lib.hid hn
  have HA := Lib.hid ha
  have HM := Lib.hid hm
  clear h hx hn ha hm
  go_enter Tryz.func38, Tryz.ntmps38
  go_wp2_with fail
  refine (number_any G p v ys m n w HA.out HM.out (by omega) (by omega)).mono ?_
  rintro e w1 ⟨rfl, G1, ⟨v1, hd1, ho1, hp1, hv1⟩, hc1, hg1⟩
  have hl1 : (ys ++ beB n 4).length = m + 4 := by rw [List.length_append, beB_length, HM.out]
  rw [hl1] at ho1
  obtain ⟨A1, c1, rfl⟩ := own_form ho1
  have hk0 : w1.cell? ⟨p, 0, none⟩ = some (.slice A1 (m + 4) c1) := hd1.cell 0
  have hf0 := hd1.frozen 0
  have hpl : p < w1.heap.size := hd1.lt
  have hxs : HasB w1 A n xs := ⟨HN.out, HX.out.chg hc1 fun b hlt hb => ⟨by have := hc1.size; show b < _; omega, hok b hb⟩⟩
  have HXS := Lib.hid hxs
  have HD1 := Lib.hid hd1
  have HO1 := Lib.hid ho1
  have HL1 := Lib.hid hl1
  have HC1 := Lib.hid hc1
  have HG1 := Lib.hid hg1
  have HAC1 : Hid (Acc w1 0 5 1 (.slice A1 (m + 4) c1) (m + 4) (bts (ys ++ beB n 4))) := Or.inl ho1
  clear hxs hd1 ho1 hl1 hc1 hg1
  go_wp2_with (first
    | (with_reducible change wpList _ _ _ ({ dst := some 14, op := _, type := _, pos := _, after := _, guard := _ } :: _) _ _; go_must (refine wpList_append_acc w1 rfl (.tmp 12) (.tmp 13) 33 rfl 0 5 (.int .u8 0) 1 1 Tryz.underlying33 Tryz.info5 rfl (by omega) (.slice A1 (m + 4) c1) (m + 4) (bts (ys ++ beB n 4)) rfl HAC1.out A n c (bts xs) rfl HXS.out.blen HXS.out.some_ HXS.out.cells (bts_one _) (by simp only [maxLen]; omega) (by omega) (by omega) ?_)
       intro v4 w4 _ _ hg4 hat4 hown4
       have hown4 := hown4 HO1.out
       obtain ⟨A4, c4, rfl⟩ := own_form hown4
       have hd4 := Blk.grown (HD1.out) hg4 (fun e => own_blk_ne HO1.out HD1.out (by decide) e.symm)
       have hc4 : w4.cell? ⟨p, 0, none⟩ = some (.slice A1 (m + 4) c1) := hd4.cell 0
       have hf4 : w4.frozen? ⟨p, 0, none⟩ = false := hd4.frozen 0
       have hlt4 : p < w4.heap.size := hd4.lt
       have HD4 := Lib.hid hd4
       have HO4 := Lib.hid hown4
       have HG4 := Lib.hid hg4
       have HAT4 := Lib.hid hat4
       clear hd4 hown4 hg4 hat4))
  go_end0
  have h9 := wr_push HL1.out HN.out hp1 hv1 HD4.out HO4.out (Chg.refl G1 w1) HG4.out HAT4.out
  have h10 := h9.trans HC1.out HG1.out
  rw [List.append_assoc] at h10
  unfold rowOf
  rw [HN.out]
  exact h10
end Go.Proofs.YtkenmpggblefiaaGreatDoor
