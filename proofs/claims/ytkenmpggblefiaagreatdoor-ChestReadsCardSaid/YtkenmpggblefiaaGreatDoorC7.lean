/- The walks of the program's writing of lists. -/
import Derived.Test.YtkenmpggblefiaaGreatDoorC6
namespace Go.Proofs.YtkenmpggblefiaaGreatDoor
open Go.RowKit
attribute [local go_sem ↓] Go.wp_at_zero Go.wp_at_succ

theorem RowV.keep {α : Type} {d : Kn α} {F ok : Nat → Prop} {w w' : World} {A : Option Addr} {xs : List α} (h : RowV d w ok A xs) (k : Chg F w w') (hF : ∀ b, b < w.heap.size → ok b → ¬ F b) : RowV d w' (fun b => ok b ∧ b < w.heap.size) A xs :=
  h.chg k fun b hlt hb => ⟨⟨hb, hlt⟩, hF b hlt hb⟩
theorem row_bytesWorld (w : World) (xs : List UInt8) (hx : xs.length ≤ maxLen) : RowV Kn.byte (Lib.bytesWorld w 5 (bs xs)) (fun b => b = w.heap.size) (some ⟨w.heap.size, 0, none⟩) xs := by
  refine RowV.of_bytes (by simp only [maxLen] at hx; omega) (fun _ => rfl) ?_
  exact (has_bytesWorld w xs _ rfl hx).cells _ rfl
theorem chgCell {F : Nat → Prop} {w w' : World} {a : Addr} {v : Value} (h : w.cell? a = some v) (k : Chg F w w') (hF : ¬ F a.block) : w'.cell? a = some v := (cell_of_same (k.block _ (lt_of_cell h) hF)).trans h

set_option maxHeartbeats 400000 in
theorem listRow_any (G ok : Nat → Prop) (p : Nat) (ys : List UInt8) (m : Nat) (A : Option Addr) (c n : Nat) (ls : List (List UInt8)) (w : World) (h : WrAt G w p ys) (hm : ys.length = m) (hmb : m < 1000000000) (hx : RowV (Kn.sl Kn.byte) w ok A ls) (hn : ls.length = n) (hok : ∀ b, ok b → ¬ G b) (hT : totL ls < 100000) :
    Calls Tryz.prog 39 #[.pointer (some ⟨p, 0, none⟩), .slice A n c, Value.func (.func 38) #[.pointer (some ⟨p, 0, none⟩)] #[]] w fun e w' => WrPost G p (ys ++ beB n 4 ++ rowsOf ls) w e w' := by
  have hl := hx.1
  rw [hn] at hl
  have htl := totL_len ls
  rw [hn] at htl
  obtain ⟨v, ha⟩ := h.acc
  have HX := Lib.hid hx
  have HN := Lib.hid hn
  have HA := Lib.hid ha
  have HM := Lib.hid hm
  clear h hx hn ha hm
  go_enter Tryz.func39, Tryz.ntmps39
  go_wp2_with fail
  refine (number_any G p v ys m n w HA.out HM.out (by omega) (by omega)).mono ?_
  rintro e w1 ⟨rfl, G1, hw1, hc1, hg1⟩
  have HC1 := Lib.hid hc1
  have HG1 := Lib.hid hg1
  have HW1 := Lib.hid hw1
  clear hw1 hc1 hg1
  go_wp2_with fail
  go_loopw [7, 14] (fun _ i wr => ∃ k : Nat, k ≤ n ∧ i = .int .i64 k ∧ ∃ G', WrAt G' wr p (ys ++ beB n 4 ++ rowsOf (ls.take k)) ∧ Chg G w wr ∧ ∀ b, G' b → G b ∨ (w.heap.size ≤ b ∧ b < wr.heap.size)) (fun _ i _ => n - (intOf i).toNat)
  case atStart => exact ⟨0, by omega, rfl, G1, by simpa [rowsOf] using HW1.out, HC1.out, HG1.out⟩
  case round =>
    obtain ⟨k, hk, rfl, G2, hw2, hc2, hg2⟩ := hrel
    have HC2 := Lib.hid hc2
    have HG2 := Lib.hid hg2
    have HW2 := Lib.hid hw2
    clear hw2 hc2 hg2
    by_cases hlt : k < n
    · have hd := hd_lt_t hlt
      have hrw := HX.out.keep HC2.out (fun b _ hb => hok b hb)
      obtain ⟨ad, y, B, cb, rfl, ho, HY, cy, hy1, hy2, hy3⟩ := row_rows_get hrw (k := k) (by have := HN.out; omega)
      obtain ⟨n4, hn4⟩ : ∃ n4, y.length = n4 := ⟨_, rfl⟩
      rw [hn4] at cy hy1
      have hb4 : (rowsOf (ls.take k)).length ≤ 400000 := by
        have h8 := totL_take_le ls k
        have h9 := rowsOf_le (ls.take k)
        omega
      have hb5 : n4 < 100000 := by
        have h8 := totL_take_le ls (k + 1)
        rw [take_snoc HY.out, totL_snoc, hn4] at h8
        omega
      have i0 : (0 : Int) ≤ (k : Int) := by omega
      have i1 : (k : Int) < (n : Int) := by omega
      obtain ⟨m2, hm2⟩ : ∃ m2, (ys ++ beB n 4 ++ rowsOf (ls.take k)).length = m2 := ⟨_, rfl⟩
      have hm2b : m2 < 2000000000 := by
        rw [← hm2, List.length_append, List.length_append, beB_length, HM.out]
        omega
      have HM2 := Lib.hid hm2
      have HN4 := Lib.hid hn4
      have HY3 := Lib.hid hy3
      have hnok : ∀ b, (ok b ∧ b < w.heap.size) → ¬ G2 b := by
        rintro b ⟨h1, h2⟩ h3
        rcases HG2.out b h3 with h | h
        · exact hok b h1 h
        · omega
      clear hm2 hn4 hy3 hrw hb4 ho
      go_wp2_with fail
      refine (row_any G2 _ p _ m2 B cb n4 y wr HW2.out HM2.out (by omega) HY3.out HN4.out hnok (by omega)).mono ?_
      intro e w3 h3
      have h4 := h3.trans HC2.out HG2.out
      obtain ⟨rfl, G3, hw3, hc3, hg3⟩ := h4
      go_wp2_with fail
      go_roundw
      case measure => simp [intOf]; omega
      case rel =>
        refine ⟨k + 1, by omega, by go_num, G3, ?_, hc3, hg3⟩
        rw [take_snoc HY.out, rowsOf_snoc, ← List.append_assoc]
        exact hw3
    · have hd := hd_lt_f hlt
      obtain rfl : k = n := by omega
      go_wp2_with fail
      go_end0
      have h9 := HW2.out
      rw [List.take_of_length_le (by have := HN.out; omega)] at h9
      exact ⟨rfl, G2, h9, HC2.out, HG2.out⟩

set_option maxHeartbeats 400000 in
theorem wchest_any (G ok : Nat → Prop) (p : Nat) (ys : List UInt8) (m : Nat) (v1 v2 : Value) (x : Chest) (w : World) (h : WrAt G w p ys) (hm : ys.length = m) (hmb : m < 10000000) (h1 : SlV Kn.byte w ok v1 x.text) (h2 : SlV (Kn.sl Kn.byte) w ok v2 x.layers) (hok : ∀ b, ok b → ¬ G b) (hT : tot [x] < 100000) :
    Calls Tryz.prog 21 #[.pointer (some ⟨p, 0, none⟩), .agg #[.string (bs x.tag), v1, v2]] w fun e w' => WrPost G p (ys ++ chestOf x) w e w' := by
  obtain ⟨A1, c1, rfl, h3, h4, h5⟩ := h1
  obtain ⟨A2, c2, rfl, h6, h7, h8⟩ := h2
  obtain ⟨n1, hn1⟩ : ∃ n1, x.text.length = n1 := ⟨_, rfl⟩
  obtain ⟨n2, hn2⟩ : ∃ n2, x.layers.length = n2 := ⟨_, rfl⟩
  rw [hn1, hn2]
  go_enter Tryz.func21, Tryz.ntmps21
  have hmf : ∀ (fn : Fn) (first cap : Array Value) (w : World), (Instr.makeFunc fn first cap).run Tryz.prog w = .ok (.func fn first cap) w := fun _ _ _ _ => rfl
  have hsz := bs_size x.tag
  obtain ⟨n0, hn0⟩ : ∃ n0, x.tag.length = n0 := ⟨_, rfl⟩
  rw [hn0] at hsz
  have hcv : ∀ W : World, (convert 9 33 (.string (bs x.tag))).run Tryz.prog W = .ok (.slice (some ⟨W.heap.size, 0, none⟩) n0 (grownCap W n0 0 5)) (Lib.bytesWorld W 5 (bs x.tag)) := by
    intro W
    have := Lib.run_convert_string_bytes (P := Tryz.prog) W 9 33 5 (bs x.tag) Tryz.underlying9 Tryz.underlying33 Tryz.underlying5
    rw [hsz] at this
    exact this
  have htb : n0 + n1 + totL x.layers < 100000 := by
    simp [tot] at hT
    omega
  have htl : n2 ≤ totL x.layers := by have := totL_len x.layers; omega
  have htm : n0 ≤ maxLen := by simp only [maxLen]; omega
  have hW := (h.mono (G' := fun b => G b ∧ b < w.heap.size) fun b hb hG => ⟨hG, hb⟩)
  obtain ⟨W0, hW0⟩ : ∃ W0, W0 = w.alloc (.cells #[.string (bs x.tag), .slice A1 n1 c1, .slice A2 n2 c2] 49) := ⟨_, rfl⟩
  have hb0 : Below w.heap.size w W0 := by rw [hW0]; exact below_new w _
  have hs0 : W0.heap.size = w.heap.size + 1 := by rw [hW0]; simp
  have hbox0 : Blk W0 w.heap.size 49 #[.string (bs x.tag), .slice A1 n1 c1, .slice A2 n2 c2] := by rw [hW0]; exact Blk.new w _ _
  obtain ⟨W1, hW1⟩ : ∃ W1, W1 = Lib.bytesWorld W0 5 (bs x.tag) := ⟨_, rfl⟩
  have hb1 : Below W0.heap.size W0 W1 := by rw [hW1]; exact Go.Joins.below_bytesWorld _ _ _ _ (Nat.le_refl _)
  have hb01 := below_next hb0 hb1
  have hs1 : W1.heap.size = w.heap.size + 2 := by rw [hW1, Lib.bytesWorld_size, hs0]
  have HTAG : Hid (RowV Kn.byte W1 (fun b => b = w.heap.size + 1) (some ⟨w.heap.size + 1, 0, none⟩) x.tag) := by
    have := row_bytesWorld W0 x.tag (by rw [hn0]; exact htm)
    rw [hs0, ← hW1] at this
    exact this
  have HBOX := Lib.hid (hbox0.step hb1)
  have HWR := Lib.hid (hW.below hb01)
  have HB := Lib.hid hb01
  have HS1 := Lib.hid hs1
  have HM := Lib.hid hm
  have HTX := Lib.hid h5
  have HLY := Lib.hid h8
  have HN0 := Lib.hid hn0
  have HN1 := Lib.hid hn1
  have HN2 := Lib.hid hn2
  clear hs0 hbox0 hb0 hb1 hb01 hs1 hW hm h h5 h8 hn0 hn1 hn2 hT
  go_wp2_with fail
  rw [← hW0, ← hW1]
  generalize grownCap W0 n0 0 5 = cc
  clear hW0 hW1 hcv
  refine (row_any (fun b => G b ∧ b < w.heap.size) _ p ys m (some ⟨w.heap.size + 1, 0, none⟩) cc n0 x.tag W1 HWR.out HM.out (by omega) HTAG.out HN0.out (by rintro b rfl h9; omega) (by omega)).mono ?_
  rintro e w2 ⟨rfl, G2, hw2, hc2, hg2⟩
  have hC2 : Chg (fun b => G b ∧ b < w.heap.size) w w2 := (Chg.of_below HB.out (fun b => G b ∧ b < w.heap.size)).trans hc2 (fun _ _ h => h)
  have hG2 : ∀ b, G2 b → (G b ∧ b < w.heap.size) ∨ (w.heap.size + 2 ≤ b ∧ b < w2.heap.size) := by
    intro b hb
    rw [← HS1.out]
    exact hg2 b hb
  have hbox2 := HBOX.out.chg hc2 (by rintro ⟨_, h⟩; omega)
  have hk1 : w2.cell? ⟨w.heap.size, 1, none⟩ = some (.slice A1 n1 c1) := hbox2.cell 1
  have htx2 := HTX.out.keep hC2 (fun b _ hb h => hok b hb h.1)
  have hl2 : (ys ++ rowOf x.tag).length = m + (4 + n0) := by rw [List.length_append, rowOf_length, HM.out, HN0.out]
  have HSZ2 : Hid (w.heap.size + 2 ≤ w2.heap.size) := by
    show _ ≤ _
    have := hc2.size
    have := HS1.out
    omega
  have HW2 := Lib.hid hw2
  have HC2 := Lib.hid hC2
  have HG2 := Lib.hid hG2
  have HBOX2 := Lib.hid hbox2
  have HTX2 := Lib.hid htx2
  have HL2 := Lib.hid hl2
  clear hw2 hc2 hg2 hC2 hG2 hbox2 htx2 hl2
  go_wp2_with fail
  refine (row_any G2 _ p _ _ A1 c1 n1 x.text w2 HW2.out HL2.out (by omega) HTX2.out HN1.out (by
    rintro b ⟨h8, h9⟩ h
    rcases HG2.out b h with h | h
    · exact hok b h8 h.1
    · omega) (by omega)).mono ?_
  rintro e w3 ⟨rfl, G3, hw3, hc3, hg3⟩
  have hC3 : Chg (fun b => G b ∧ b < w.heap.size) w w3 := HC2.out.trans hc3 (fun i hi h => by
    rcases HG2.out i h with h | h
    · exact h
    · omega)
  have hG3 : ∀ b, G3 b → (G b ∧ b < w.heap.size) ∨ (w.heap.size + 2 ≤ b ∧ b < w3.heap.size) := by
    intro b hb
    rcases hg3 b hb with h | h
    · rcases HG2.out b h with h | h
      · exact .inl h
      · have := hc3.size
        exact .inr (by omega)
    · have := HC2.out.size
      have h9 : w.heap.size + 2 ≤ w2.heap.size := by
        exact HSZ2.out
      exact .inr (by omega)
  have hbox3 := HBOX2.out.chg hc3 (fun h => by
    rcases HG2.out _ h with h | h
    · omega
    · omega)
  have hk2 : w3.cell? ⟨w.heap.size, 2, none⟩ = some (.slice A2 n2 c2) := hbox3.cell 2
  have hly3 := HLY.out.keep hC3 (fun b _ hb h => hok b hb h.1)
  have hl3 : (ys ++ rowOf x.tag ++ rowOf x.text).length = m + (4 + n0) + (4 + n1) := by rw [List.length_append, rowOf_length, HL2.out, HN1.out]
  have HW3 := Lib.hid hw3
  have HC3 := Lib.hid hC3
  have HG3 := Lib.hid hG3
  have HLY3 := Lib.hid hly3
  have HL3 := Lib.hid hl3
  clear hw3 hc3 hg3 hC3 hG3 hbox3 hly3 hl3
  go_wp2_with fail
  refine (listRow_any G3 _ p _ _ A2 c2 n2 x.layers w3 HW3.out HL3.out (by omega) HLY3.out HN2.out (by
    rintro b ⟨h8, h9⟩ h
    rcases HG3.out b h with h | h
    · exact hok b h8 h.1
    · omega) (by omega)).mono ?_
  intro e w4 h4
  have h5 := h4.trans (HC3.out.mono (G := G) fun _ _ h => h.1) (fun b hb => by
    rcases HG3.out b hb with h | h
    · exact .inl h.1
    · exact .inr (by omega))
  obtain ⟨rfl, G4, hw4, hc4, hg4⟩ := h5
  go_wp2_with fail
  go_end0
  refine ⟨rfl, G4, ?_, hc4, hg4⟩
  unfold chestOf
  rw [HN2.out]
  simpa only [List.append_assoc] using hw4
end Go.Proofs.YtkenmpggblefiaaGreatDoor
