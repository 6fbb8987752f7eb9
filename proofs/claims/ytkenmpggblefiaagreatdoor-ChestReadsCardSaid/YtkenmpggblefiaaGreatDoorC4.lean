/- The walk of the reference's comparing of chests. -/
import Derived.Test.YtkenmpggblefiaaGreatDoorC3
namespace Go.Proofs.YtkenmpggblefiaaGreatDoor
open Go.RowKit
open Go.MapKept
attribute [local go_sem ↓] Go.wp_at_zero Go.wp_at_succ

theorem Rows_drew (A B : Option Addr) (c d n m : Nat) (xs ys : List (List UInt8)) (w : World) (q : Nat) (ok ok' : Nat → Prop) (h : RowV (Kn.sl Kn.byte) (w.drewN q) ok A xs) (h' : RowV (Kn.sl Kn.byte) (w.drewN q) ok' B ys) (hn : xs.length = n) (hm : ys.length = m) :
    Calls Tryz.prog 27 #[.slice A n c, .slice B m d] (w.drewN q) fun e w' => e = .returned (.bool (decide (xs = ys))) ∧ ∃ n, w' = w.drewN n :=
  (Rows_any A B c d n m xs ys _ ok ok' h h' hn hm).mono fun e w' ⟨h1, k, h2⟩ => ⟨h1, q + k, by rw [h2, World.drewN_drewN]⟩

theorem toList_loop (b : ByteArray) (i : Nat) (r : List UInt8) : i ≤ b.size → ByteArray.toList.loop b i r = r.reverse ++ b.data.toList.drop i := by
  intro h
  rw [ByteArray.toList.loop]
  by_cases h1 : i < b.size
  · rw [if_pos h1, toList_loop b (i+1) _ (by omega)]
    have h2 : i < b.data.size := h1
    have hs : i < b.data.toList.length := by rw [Array.length_toList]; exact h2
    rw [List.drop_eq_getElem_cons hs]
    have e : b.get! i = b.data.toList[i] := by
      show b.data[i]! = _
      rw [getElem!_pos b.data i h2]
      simp
    rw [e]
    simp
  · have hs : i = b.size := by omega
    have h2 : b.data.toList.length ≤ i := by rw [Array.length_toList]; show b.size ≤ i; omega
    rw [if_neg h1, List.drop_of_length_le h2]
    simp
termination_by b.size - i
theorem bytes_toList (b : ByteArray) : b.toList = b.data.toList := by
  have := toList_loop b 0 [] (by omega)
  show ByteArray.toList.loop b 0 [] = _
  rw [this]
  rfl
theorem bs_toList (xs : List UInt8) : (bs xs).toList = xs := by
  rw [bytes_toList]
  simp [bs]
theorem beq_same {xs ys : List UInt8} (h : xs = ys) : ((bs xs).toList == (bs ys).toList) = true := by
  rw [h]
  simp
theorem beq_diff {xs ys : List UInt8} (h : ¬ xs = ys) : ((bs xs).toList == (bs ys).toList) = false := by
  rw [bs_toList, bs_toList]
  simpa using h
/-- the same chest -/
def eqC (x y : Chest) : Bool := decide (x.tag = y.tag) && decide (x.text = y.text) && decide (x.layers = y.layers)
theorem eqC_iff (x y : Chest) : eqC x y = true ↔ x = y := by
  cases x; cases y
  simp [eqC, and_assoc]
def eqCs : List Chest → List Chest → Bool
  | [], [] => true
  | x :: l, y :: l' => eqC x y && eqCs l l'
  | _, _ => false
theorem eqCs_iff : ∀ l l' : List Chest, eqCs l l' = true ↔ l = l'
  | [], [] => by simp [eqCs]
  | x :: l, y :: l' => by simp [eqCs, eqC_iff, eqCs_iff l l']
  | [], y :: l' => by simp [eqCs]
  | x :: l, [] => by simp [eqCs]

set_option maxHeartbeats 1000000 in
theorem Same_any (A B : Option Addr) (c d n m : Nat) (xs ys : List Chest) (w : World) (ok ok' : Nat → Prop) (h : RowV kChest w ok A xs) (h' : RowV kChest w ok' B ys) (hn : xs.length = n) (hm : ys.length = m) :
    Calls Tryz.prog 12 #[.slice A n c, .slice B m d] w fun e w' => e = .returned (.bool (eqCs xs ys)) ∧ ∃ n, w' = w.drewN n := by
  have hl := h.1
  rw [hn] at hl
  have HN := Lib.hid hn
  have HM := Lib.hid hm
  clear hn hm
  by_cases hlen : n = m
  · subst hlen
    have hne : (((n : Nat) : Int) != ((n : Nat) : Int)) = false := by simp
    go_enter Tryz.func12, Tryz.ntmps12
    go_wp2_with fail
    go_loopw [5] (fun i wr => ∃ k : Nat, k ≤ n ∧ i = .int .i64 k ∧ Hid (xs.take k = ys.take k) ∧ ∃ q, wr = w.drewN q) (fun i _ => n - (intOf i).toNat)
    case atStart => exact ⟨0, Nat.zero_le _, rfl, rfl, 0, rfl⟩
    case round =>
      obtain ⟨k, hk, rfl, HE, q, rfl⟩ := hrel
      by_cases hlt : k < n
      · have hd := hd_lt_t hlt
        obtain ⟨ad, x, A1, ca1, A2, ca2, rfl, ho, I1, a0, at0, a1, ab1, ab2, ab3, a2, ad1, ad3, ad4⟩ := row_chest_get h (k := k) (by have := HN.out; omega)
        obtain ⟨bd, y, B1, cb1, B2, cb2, rfl, ho', I2, b0, bt0, b1, bb1, bb2, bb3, b2, bd1, bd3, bd4⟩ := row_chest_get h' (k := k) (by have := HM.out; omega)
        obtain ⟨n1, hn1⟩ : ∃ n1, x.text.length = n1 := ⟨_, rfl⟩
        obtain ⟨n2, hn2⟩ : ∃ n2, x.layers.length = n2 := ⟨_, rfl⟩
        obtain ⟨m1, hm1⟩ : ∃ m1, y.text.length = m1 := ⟨_, rfl⟩
        obtain ⟨m2, hm2⟩ : ∃ m2, y.layers.length = m2 := ⟨_, rfl⟩
        rw [hn1] at a1
        rw [hn2] at a2
        rw [hm1] at b1
        rw [hm2] at b2
        rw [← add_of_add] at a1 a2 b1 b2
        have i0 : (0 : Int) ≤ (k : Int) := by omega
        have i1 : (k : Int) < (n : Int) := by omega
        obtain ⟨wq, hwq⟩ : ∃ wq, wq = w.drewN q := ⟨_, rfl⟩
        rw [← hwq]
        replace a0 : wq.cell? (ad.add (k * 3)) = some (.string (bs x.tag)) := by rw [hwq]; exact a0
        replace a1 : wq.cell? ⟨(ad.add (k * 3)).block, (ad.add (k * 3)).off + 1, none⟩ = some (.slice A1 n1 ca1) := by rw [hwq]; exact a1
        replace a2 : wq.cell? ⟨(ad.add (k * 3)).block, (ad.add (k * 3)).off + 2, none⟩ = some (.slice A2 n2 ca2) := by rw [hwq]; exact a2
        replace b0 : wq.cell? (bd.add (k * 3)) = some (.string (bs y.tag)) := by rw [hwq]; exact b0
        replace b1 : wq.cell? ⟨(bd.add (k * 3)).block, (bd.add (k * 3)).off + 1, none⟩ = some (.slice B1 m1 cb1) := by rw [hwq]; exact b1
        replace b2 : wq.cell? ⟨(bd.add (k * 3)).block, (bd.add (k * 3)).off + 2, none⟩ = some (.slice B2 m2 cb2) := by rw [hwq]; exact b2
        have hc1 : ∀ q2, Calls Tryz.prog 10 #[.slice A1 n1 ca1, .slice B1 m1 cb1] (wq.drewN q2) fun e w' => e = .returned (.bool (decide (x.text = y.text))) ∧ ∃ n, w' = wq.drewN n :=
          fun q2 => rEqual_drew A1 B1 ca1 cb1 n1 m1 x.text y.text wq q2 ok ok' (ab3.move fun b hb _ => ⟨hb, by rw [hwq]; rfl⟩) (bb3.move fun b hb _ => ⟨hb, by rw [hwq]; rfl⟩) hn1 hm1
        have hc2 : ∀ q2, Calls Tryz.prog 27 #[.slice A2 n2 ca2, .slice B2 m2 cb2] (wq.drewN q2) fun e w' => e = .returned (.bool (decide (x.layers = y.layers))) ∧ ∃ n, w' = wq.drewN n :=
          fun q2 => Rows_drew A2 B2 ca2 cb2 n2 m2 x.layers y.layers wq q2 ok ok' (ad4.move fun b hb _ => ⟨hb, by rw [hwq]; rfl⟩) (bd4.move fun b hb _ => ⟨hb, by rw [hwq]; rfl⟩) hn2 hm2
        have HWQ := Lib.hid hwq
        clear hwq hn1 hn2 hm1 hm2 ab1 ab2 ab3 ad1 ad3 ad4 bb1 bb2 bb3 bd1 bd3 bd4 ho ho' at0 bt0
        have hbad : eqC x y = false → eqCs xs ys = false := by
          intro hf
          rw [Bool.eq_false_iff]
          intro hs
          have e := (eqCs_iff _ _).1 hs
          rw [Bool.eq_false_iff] at hf
          refine hf ((eqC_iff _ _).2 (Option.some.inj (I1.out.symm.trans ?_)))
          rw [e]
          exact I2.out
        by_cases he1 : x.tag = y.tag
        · have hs1 := beq_same he1
          by_cases he2 : x.text = y.text
          · rw [decide_eq_true he2] at hc1
            by_cases he3 : x.layers = y.layers
            · rw [decide_eq_true he3] at hc2
              have hxy : x = y := (eqC_iff _ _).1 (by simp [eqC, he1, he2, he3])
              have HXY := Lib.hid hxy
              clear hxy he1 he2 he3 hbad
              go_wp2_with fail
              go_big_quiet (first | (go_at_call 10; with_reducible exact hc1 _) | (go_at_call 27; with_reducible exact hc2 _))
              go_wp2_with fail
              go_roundw
              case measure => simp [intOf]; omega
              case rel =>
                refine ⟨k + 1, by omega, by go_num, ?_, _, by rw [HWQ.out, World.drewN_drewN]⟩
                show _ = _
                rw [take_snoc I1.out, take_snoc I2.out, HE.out, HXY.out]
            · rw [decide_eq_false he3] at hc2
              have HB := Lib.hid (hbad (by simp [eqC, he3]))
              clear hbad he1 he2 he3
              go_wp2_with fail
              go_big_quiet (first | (go_at_call 10; with_reducible exact hc1 _) | (go_at_call 27; with_reducible exact hc2 _))
              go_wp2_with fail
              go_ret
              rw [HB.out]
              exact ⟨rfl, _, by rw [HWQ.out, World.drewN_drewN]⟩
          · rw [decide_eq_false he2] at hc1
            have HB := Lib.hid (hbad (by simp [eqC, he2]))
            clear hbad he1 he2
            go_wp2_with fail
            go_big_quiet (first | (go_at_call 10; with_reducible exact hc1 _) | (go_at_call 27; with_reducible exact hc2 _))
            go_wp2_with fail
            go_ret
            rw [HB.out]
            exact ⟨rfl, _, by rw [HWQ.out, World.drewN_drewN]⟩
        · have hs1 := beq_diff he1
          have HB := Lib.hid (hbad (by simp [eqC, he1]))
          clear hbad he1
          go_wp2_with fail
          go_big_quiet (first | (go_at_call 10; with_reducible exact hc1 _) | (go_at_call 27; with_reducible exact hc2 _))
          go_wp2_with fail
          go_ret
          rw [HB.out]
          exact ⟨rfl, _, by rw [HWQ.out, World.drewN_drewN]⟩
      · have hd := hd_lt_f hlt
        obtain rfl : k = n := by omega
        go_wp2_with fail
        go_ret
        refine ⟨?_, _, rfl⟩
        have := HE.out
        rw [List.take_of_length_le (by have := HN.out; omega), List.take_of_length_le (by have := HM.out; omega)] at this
        rw [(eqCs_iff _ _).2 this]; rfl
  · have hd : eqCs xs ys = false := by
      rw [Bool.eq_false_iff]
      intro hs
      have e := (eqCs_iff _ _).1 hs
      exact hlen (by have := HN.out; have := HM.out; rw [e] at *; omega)
    rw [hd]
    clear hd
    have hne : (((n : Nat) : Int) != ((m : Nat) : Int)) = true := by rw [bne_iff_ne]; omega
    go_enter Tryz.func12, Tryz.ntmps12
    go_wp2_with fail
    go_ret
    exact ⟨rfl, 0, rfl⟩
end Go.Proofs.YtkenmpggblefiaaGreatDoor
