/- The walks of package sha. -/
import Derived.Test.YtkenmpggblefiaaGreatDoorS0
import Derived.Test.YtkenmpggblefiaaGreatDoorP1
import Derived.Laws.Tables
import Derived.Deep.MidRow
import Derived.Laws.CopyOwn
import Derived.Deep.WholeRow
import Derived.StillTailTactics
import Derived.Deep.Cut
import Derived.Deep.CutBlock
import Derived.Deep.DeepCutAuto
import Derived.RegionTactic
import Derived.ChangeAlike
namespace Go.Proofs.YtkenmpggblefiaaGreatDoor
open Go.RowKit

set_option maxHeartbeats 400000 in
theorem rotl_any (x k : Int) (s : Nat) (w : World) (hs : s < 32) (hk : Go.bits .and .u64 (IntKind.u64.wrap k) 31 = (s : Int)) :
    Calls Tryz.prog 234 #[.int .u32 x, .int .i64 k] w fun e w' => e = .returned (.int .u32 (rl x s)) ∧ w = w' := by
  go_enter Tryz.func234, Tryz.ntmps234
  go_wp2
  go_ret
  exact ⟨rfl, rfl⟩

theorem rot7 (x : Int) (w : World) : Calls Tryz.prog 234 #[.int .u32 x, .int .i64 (-7)] w fun e w' => e = .returned (.int .u32 (rl x 25)) ∧ w = w' := rotl_any x (-7) 25 w (by omega) (by decide +kernel)
theorem rot18 (x : Int) (w : World) : Calls Tryz.prog 234 #[.int .u32 x, .int .i64 (-18)] w fun e w' => e = .returned (.int .u32 (rl x 14)) ∧ w = w' := rotl_any x (-18) 14 w (by omega) (by decide +kernel)
theorem rot17 (x : Int) (w : World) : Calls Tryz.prog 234 #[.int .u32 x, .int .i64 (-17)] w fun e w' => e = .returned (.int .u32 (rl x 15)) ∧ w = w' := rotl_any x (-17) 15 w (by omega) (by decide +kernel)
theorem rot19 (x : Int) (w : World) : Calls Tryz.prog 234 #[.int .u32 x, .int .i64 (-19)] w fun e w' => e = .returned (.int .u32 (rl x 13)) ∧ w = w' := rotl_any x (-19) 13 w (by omega) (by decide +kernel)
theorem rot6 (x : Int) (w : World) : Calls Tryz.prog 234 #[.int .u32 x, .int .i64 (-6)] w fun e w' => e = .returned (.int .u32 (rl x 26)) ∧ w = w' := rotl_any x (-6) 26 w (by omega) (by decide +kernel)
theorem rot11 (x : Int) (w : World) : Calls Tryz.prog 234 #[.int .u32 x, .int .i64 (-11)] w fun e w' => e = .returned (.int .u32 (rl x 21)) ∧ w = w' := rotl_any x (-11) 21 w (by omega) (by decide +kernel)
theorem rot25 (x : Int) (w : World) : Calls Tryz.prog 234 #[.int .u32 x, .int .i64 (-25)] w fun e w' => e = .returned (.int .u32 (rl x 7)) ∧ w = w' := rotl_any x (-25) 7 w (by omega) (by decide +kernel)
theorem rot2 (x : Int) (w : World) : Calls Tryz.prog 234 #[.int .u32 x, .int .i64 (-2)] w fun e w' => e = .returned (.int .u32 (rl x 30)) ∧ w = w' := rotl_any x (-2) 30 w (by omega) (by decide +kernel)
theorem rot13 (x : Int) (w : World) : Calls Tryz.prog 234 #[.int .u32 x, .int .i64 (-13)] w fun e w' => e = .returned (.int .u32 (rl x 19)) ∧ w = w' := rotl_any x (-13) 19 w (by omega) (by decide +kernel)
theorem rot22 (x : Int) (w : World) : Calls Tryz.prog 234 #[.int .u32 x, .int .i64 (-22)] w fun e w' => e = .returned (.int .u32 (rl x 10)) ∧ w = w' := rotl_any x (-22) 10 w (by omega) (by decide +kernel)

theorem n32_one (xs : List Int) : ∀ u ∈ n32 xs, u.oneCell' = true := by
  intro u hu
  obtain ⟨b, _, rfl⟩ := List.mem_map.1 hu
  rfl
theorem n32_all (l : List Int) : (n32 l).toArray.all (·.oneCell') = true := by
  simp [n32, Array.all_eq_true]
  intro i _
  rfl

theorem arr64_size : (Tryz.prog.info? 291).map (·.size) = some 64 := by kernel_rfl

theorem word_cell {w : World} {g : Nat} {t : TypeId} {l : List Int} (h : Blk w g t (n32 l).toArray) {i : Nat} (hi : i < l.length) : w.cell? ⟨g, i, none⟩ = some (.int .u32 (wd l i)) := by
  rw [h.cell i]
  simp [n32, wd, List.getElem?_eq_getElem hi]

set_option maxHeartbeats 400000 in
set_option maxRecDepth 100000 in
theorem schedule_any (ad : Addr) (c : Nat) (xs : List UInt8) (w : World) (h : RowV Kn.byte w (old w) (some ad) xs) (hx : xs.length = 64) (hc : 64 ≤ c) :
    Calls Tryz.prog 233 #[.slice (some ad) 64 c] w fun e w' => e = .returned (.agg (n32 (sch xs)).toArray) ∧ Below w.heap.size w w' := by
  have hz : ∀ W : World, Blk (W.alloc (.cells (n32 (List.replicate 64 0)).toArray 291)) W.heap.size 291 (n32 ([] ++ List.replicate 64 0)).toArray := fun W => Blk.new W _ _
  go_enter Tryz.func233, Tryz.ntmps233
  go_wp2
  go_loopw [4, 10] (fun _ i wr => ∃ k : Nat, k ≤ 16 ∧ i = .int .i64 k ∧ Blk wr (w.heap.size + 1) 291 (n32 (sch0 xs k ++ List.replicate (64 - k) 0)).toArray ∧ (∃ cs : Array Value, cs.size = 64 ∧ Blk wr w.heap.size 291 cs) ∧ Below w.heap.size w wr) (fun _ i _ => 16 - (intOf i).toNat)
  case atStart =>
    refine ⟨0, Nat.zero_le _, rfl, ?_, ⟨_, ?_, (Blk.new _ _ _).alloc _⟩, ((Below.refl _ _).alloc (Nat.le_refl _) _).alloc (by simp) _⟩
    · exact heap_alloc2_new w _ _
    · rfl
  case round =>
    obtain ⟨k, hk, rfl, hB, ⟨cs, hcs, hR⟩, hb⟩ := hrel
    by_cases hlt : k < 16
    · obtain ⟨u, hu⟩ := hB.has k (by simp [n32, sch0_length]; omega)
      have hfr := hB.frozen k
      have hne : ¬ c = 4 * k := by omega
      have hl4 : xs.length ≤ 64 := by omega
      have hrow : RowV Kn.byte w (old w) (some (ad.add (4 * k))) ((xs.drop (4 * k)).take 4) := by
        have := (h.drop_at (k := 4 * k) (by omega)).take 4
        simpa [Kn.byte, Kn.scalar] using this
      have HL : Hid (((xs.drop (4 * k)).take 4).length = 4) := by show _ = _; simp; omega
      go_wp2_with (go_at_call 59; refine (GetBig32_n _ _ _ _ _ _ (hrow.old_ hb) HL.out).mono ?_; rintro e w' ⟨rfl, rfl⟩)
      go_roundw
      case rel =>
        refine ⟨k + 1, by omega, by go_num, ?_, ⟨cs, hcs, hR.far (by simp) _⟩, hb.setCell (by simp) _⟩
        have h1 := hB.set_ k (Value.int .u32 ↑(gB (List.take 4 (List.drop (4 * k) xs)) 4))
        have h2 := put_word (sch0 xs k) (63 - k) (gB (List.drop (4 * k) xs) 4 : Int)
        rw [sch0_length] at h2
        rw [n32_set, gB_take _ _ _ (Nat.le_refl _), show 64 - k = 63 - k + 1 by omega, h2] at h1
        rw [gB_take _ _ _ (Nat.le_refl _), show 64 - (k + 1) = 63 - k by omega]
        exact h1
      case measure => simp [intOf]; omega
    · obtain rfl : k = 16 := by omega
      clear hk hlt
      rw [show ((16 : Nat) : Int) = 16 from rfl]
      go_wp2
      go_loopw [5, 6, 7, 8, 9] (fun i _ _ _ _ wr => ∃ k : Nat, k ≤ 48 ∧ i = .int .i64 ((k + 16 : Nat) : Int) ∧ Blk wr (w.heap.size + 1) 291 (n32 (sch1 (sch0 xs 16) k ++ List.replicate (48 - k) 0)).toArray ∧ (∃ cs : Array Value, cs.size = 64 ∧ Blk wr w.heap.size 291 cs) ∧ Below w.heap.size w wr) (fun i _ _ _ _ _ => 64 - (intOf i).toNat)
      case atStart => exact ⟨0, by omega, rfl, hB, ⟨cs, hcs, hR⟩, hb⟩
      case round =>
        clear hB hR hb
        obtain ⟨k, hk, rfl, hB, ⟨cs, hcs, hR⟩, hb⟩ := hrel
        by_cases hlt : k < 48
        · have hlen : (sch1 (sch0 xs 16) k ++ List.replicate (48 - k) 0).length = 64 := by simp [sch1_length, sch0_length]; omega
          have e15 := word_cell hB (i := k + 1) (by omega)
          have e2 := word_cell hB (i := k + 14) (by omega)
          have e16 := word_cell hB (i := k) (by omega)
          have e7 := word_cell hB (i := k + 9) (by omega)
          have hl2 : (sch1 (sch0 xs 16) k).length = k + 16 := by simp [sch1_length, sch0_length]; omega
          rw [wd_append _ _ _ (by omega)] at e15 e2 e16 e7
          obtain ⟨u, hput⟩ := hB.has (k + 16) (by simp [n32] at hlen ⊢; omega)
          have hfr := hB.frozen (k + 16)
          clear hlen
          have HL2 := Lib.hid hl2
          clear hl2
          go_wp2
          go_quiet (fail)
          go_wp2_with (go_at_call 234; (first | (with_reducible refine (rot7 _ _).mono ?_) | (with_reducible refine (rot18 _ _).mono ?_) | (with_reducible refine (rot17 _ _).mono ?_) | (with_reducible refine (rot19 _ _).mono ?_)); rintro e w' ⟨rfl, rfl⟩)
          go_region
          go_wp2
          go_roundw
          case rel =>
            refine ⟨k + 1, by omega, by go_num, ?_, ⟨cs, hcs, by exact hR.far (by simp) _⟩, ?_⟩
            · have h2 := put_word (sch1 (sch0 xs 16) k) (47 - k) (snext (sch1 (sch0 xs 16) k) (k + 16))
              rw [HL2.out] at h2
              rw [show 48 - (k + 1) = 47 - k by omega]
              have h1 := hB.set_ (k + 16) (.int .u32 (snext (sch1 (sch0 xs 16) k) (k + 16)))
              rw [n32_set, show 48 - k = 47 - k + 1 by omega, h2] at h1
              exact h1
            · exact (below_drewN hb _).setCell (by simp) _
          case measure => simp [intOf]; omega
        · obtain rfl : k = 48 := by omega
          have hsz : (n32 (sch1 (sch0 xs 16) 48 ++ List.replicate (48 - 48) 0)).toArray.size = 64 := by simp [n32, sch1_length, sch0_length]
          go_upto_region 14 with (fail)
          generalize hL : sch1 (sch0 xs 16) 48 ++ List.replicate (48 - 48) 0 = L at *
          refine wp_region_lit ?_
          refine wpList_load_row rfl 291 (.tmp 3) rfl (w.heap.size + 1) rfl 291 (n32 L).toArray (0, 0) _ hB Tryz.underlying291 ?_ ?_ ?_
          · rfl
          · exact arr64_size.trans (congrArg some hsz.symm)
          refine wpList_store_row rfl 291 (.tmp 2) (.tmp 67) rfl w.heap.size (n32 L).toArray rfl rfl 291 cs hR ?_ ?_ ?_ ?_
          · exact arr64_size.trans (congrArg some hsz.symm)
          · rw [hcs, hsz]
          · exact n32_all L
          go_wp2
          refine bodyPost_ret (results_cell_row rfl _ _ w.heap.size 291 (n32 L).toArray (0, 0) _ rfl (setRow_heap wr _ cs _ _ _ hR) Tryz.underlying291 rfl (arr64_size.trans (congrArg some hsz.symm))) rfl ⟨?_, below_setRow hb (Nat.le_refl _) _⟩
          rw [← hL]
          simp [sch]


theorem range_state {w : World} {g : Nat} {st ks : List Int} {wt : List UInt8} {many : Nat} {all : Int} (h : Blk w g 294 (hc st ks wt many all)) (h1 : st.length = 8) : w.rangeAt g 0 (n32 st) := by
  intro j v hv
  rw [h.cell]
  have hj : j < 8 := by
    rcases Nat.lt_or_ge j 8 with q | q
    · exact q
    · rw [List.getElem?_eq_none (by simp [n32]; omega)] at hv; cases hv
  simp only [hc, Nat.zero_add, List.getElem?_toArray]
  rw [List.getElem?_append_left (by simp [n32]; omega)]
  exact hv
theorem range_below {w w' : World} {g o : Nat} {cs : List Value} (h : w.rangeAt g o cs) (hb : Below w.heap.size w w') (hg : g < w.heap.size) : w'.rangeAt g o cs := fun j v hv => (hb.cell (p := ⟨g, o + j, none⟩) hg).trans (h j v hv)
theorem range_alloc {w : World} {g o : Nat} {cs : List Value} (h : w.rangeAt g o cs) (ob : Obj) : (w.alloc ob).rangeAt g o cs := fun j v hv => by
  have := h j v hv
  rw [World.cell?_alloc_lt w ob _ (lt_of_cell this)]
  exact this

theorem arr8_size : (Tryz.prog.info? 289).map (·.size) = some 8 := by kernel_rfl

set_option maxHeartbeats 400000 in
set_option maxRecDepth 100000 in
theorem block_any (g : Nat) (ad : Addr) (c : Nat) (xs wt : List UInt8) (st ks : List Int) (many : Nat) (all : Int) (w : World) (h : RowV Kn.byte w (old w) (some ad) xs) (hx : xs.length = 64) (hc' : 64 ≤ c)
    (hg : Blk w g 294 (hc st ks wt many all)) (h1 : st.length = 8) (h2 : ks.length = 64) :
    Calls Tryz.prog 232 #[.pointer (some ⟨g, 0, none⟩), .slice (some ad) 64 c] w fun e w' => e = .returned (.tuple #[]) ∧ Blk w' g 294 (hc (work st ks xs) ks wt many all) ∧ w.grownBy w' (some g) := by
  have Hw : Hid (sch xs = sch xs) := rfl
  go_enter Tryz.func232, Tryz.ntmps232
  have hs64 : (n32 (sch xs)).toArray.size = 64 := by simp [n32, sch_length]
  have hs64i := arr64_size.trans (congrArg some hs64.symm)
  have hall := n32_all (sch xs)
  have HS := Lib.hid hs64
  clear hs64
  have HSI := Lib.hid hs64i
  have HA := Lib.hid hall
  clear hs64i hall
  have HR : Hid (w.rangeAt g 0 (n32 st)) := range_state hg h1
  have h8 : (n32 st).toArray.size = 8 := by simp [n32, h1]
  have H8 := Lib.hid h8
  have H8i := Lib.hid (arr8_size.trans (congrArg some h8.symm))
  have HA8 := Lib.hid (n32_all st)
  clear h8
  generalize hW : sch xs = W at *
  have HW := Lib.hid hW
  clear hW
  go_wp2_with (first
    | (go_at_call 233; refine (schedule_any ad c xs _ h hx hc').mono ?_; rintro e w1 ⟨rfl, hb1⟩; rw [HW.out])
    | (with_reducible change wpList _ _ _ ({ dst := none, op := Op.store 291 (Operand.tmp 4) (Operand.tmp 14), type := _, pos := _, after := _, guard := _ } :: _) _ _
       go_must (refine wpList_store_row rfl 291 (.tmp 4) (.tmp 14) rfl w1.heap.size (n32 W).toArray rfl rfl 291 _ (Blk.new w1 _ _) HSI.out HS.out.symm HA.out ?_
                rw [World.setRow_alloc_new]))
    | (with_reducible change wpList _ _ _ ({ dst := some 18, op := Op.load 289 (Operand.tmp 17), type := _, pos := _, after := _, guard := _ } :: _) _ _
       go_must (refine wpList_load_mid rfl 289 (.tmp 17) rfl g 0 rfl (n32 st) _ (range_alloc (range_below HR.out hb1 hg.lt) _) Tryz.underlying289 rfl H8i.out ?_))
    | (with_reducible change wpList _ _ _ ({ dst := none, op := Op.store 289 (Operand.tmp 5) (Operand.tmp 18), type := _, pos := _, after := _, guard := _ } :: _) _ _
       go_must (refine wpList_store_row rfl 289 (.tmp 5) (.tmp 18) rfl (w1.heap.size + 1) (n32 st).toArray rfl rfl 289 _ (heap_alloc2_new w1 _ _) H8i.out H8.out.symm HA8.out ?_)))
  go_loopw [6, 7, 8, 9, 10, 11, 19] (fun _ _ _ _ _ _ i wr => ∃ k : Nat, k ≤ 64 ∧ i = .int .i64 k ∧ Blk wr w1.heap.size 291 (n32 W).toArray ∧ Blk wr (w1.heap.size + 1) 289 (n32 (rounds st ks W k)).toArray ∧ Below w.heap.size w wr) (fun _ _ _ _ _ _ i _ => 64 - (intOf i).toNat)
  case atStart =>
    refine ⟨0, by omega, rfl, ?_, setRow_heap _ _ _ _ _ _ (heap_alloc2_new w1 _ _), below_setRow (((hb1.alloc hb1.size _)).alloc (by have := hb1.size; simp; omega) _) (by have := hb1.size; omega) _⟩
    show _ = _
    rw [setRow_other _ _ _ _ (by omega)]
    exact heap_alloc2_old w1 _ _
  case round =>
    obtain ⟨k, hk, rfl, hBW, hBV, hb⟩ := hrel
    have hsz1 := hb1.size
    by_cases hlt : k < 64
    · obtain ⟨v0, v1, v2, v3, v4, v5, v6, v7, hV⟩ : ∃ v0 v1 v2 v3 v4 v5 v6 v7, rounds st ks W k = [v0, v1, v2, v3, v4, v5, v6, v7] := by
        have := rounds_length st ks W h1 k
        match hr : rounds st ks W k, this with
        | [a, b, c, d, e, f, g, h], _ => exact ⟨a, b, c, d, e, f, g, h, rfl⟩
      rw [hV] at hBV
      have HV := Lib.hid hV
      clear hV
      have f0 := hBV.cell 0
      have f1 := hBV.cell 1
      have f2 := hBV.cell 2
      have f3 := hBV.cell 3
      have f4 := hBV.cell 4
      have f5 := hBV.cell 5
      have f6 := hBV.cell 6
      have f7 := hBV.cell 7
      have fw := word_cell hBW (i := k) (by have := HW.out; rw [← this, sch_length]; omega)
      have fk : wr.cell? ⟨g, 8 + k, none⟩ = some (.int .u32 (wd ks k)) := ((hg.below hb hg.lt).cell _).trans (hc_k h1 h2 hlt)
      simp only [n32, List.map_cons, List.map_nil, List.getElem?_toArray, List.getElem?_cons_zero, List.getElem?_cons_succ] at f0 f1 f2 f3 f4 f5 f6 f7
      have HBW := Lib.hid hBW
      have HBV := Lib.hid hBV
      have HG := Lib.hid hg
      have HH := Lib.hid h
      have HB := Lib.hid hb
      have HB1 := Lib.hid hb1
      clear hBW hBV hg h hb hb1 hk HS HSI HA HR H8 H8i HA8 Hw
      have hd : decide ((k : Int) < 64) = true := by simp; omega
      have hsgn : IntKind.u32.signed = false := rfl
      have hmax : IntKind.u32.max = 4294967295 := rfl
      go_wp2_with fail
      go_quiet (fail)
      go_wp2_with (go_at_call 234; (first | (with_reducible refine (rot6 _ _).mono ?_) | (with_reducible refine (rot11 _ _).mono ?_) | (with_reducible refine (rot25 _ _).mono ?_)); rintro e w' ⟨rfl, rfl⟩)
      go_quiet (fail)
      go_wp2_with (go_at_call 234; (first | (with_reducible refine (rot2 _ _).mono ?_) | (with_reducible refine (rot13 _ _).mono ?_) | (with_reducible refine (rot22 _ _).mono ?_)); rintro e w' ⟨rfl, rfl⟩)
      go_still_tail 2, (by kernel_rfl)
      refine wpList_copy_own rfl (.tmp 85) (.tmp 86) 95 95 rfl 98 Tryz.underlying95 (by kernel_rfl) (w1.heap.size + 1) 1 7 7 ⟨w1.heap.size + 1, 0, none⟩ 7 8 rfl rfl (n32 [v0, v1, v2, v3, v4, v5, v6, v7]).toArray 289 HBV.out (n32 [v0, v1, v2, v3, v4, v5, v6]) rfl ?_ (by simp [n32]) ?_ ?_
      · intro j v hv
        have hv2 : (n32 [v0, v1, v2, v3, v4, v5, v6, v7])[j]? = some v := by
          rw [show n32 [v0, v1, v2, v3, v4, v5, v6, v7] = n32 [v0, v1, v2, v3, v4, v5, v6] ++ n32 [v7] from rfl, List.getElem?_append_left (List.getElem?_eq_some_iff.1 hv).1]
          exact hv
        rw [add_plain]
        show wr.cell? ⟨w1.heap.size + 1, 0 + j, none⟩ = some v
        rw [HBV.out.cell, Nat.zero_add, List.getElem?_toArray]
        exact hv2
      · exact n32_one _
      generalize hw4 : World.setRow _ _ _ = w4
      have hBV4 : Blk w4 (w1.heap.size + 1) 289 (n32 [v0, v0, v1, v2, v3, v4, v5, v6]).toArray := by
        rw [← hw4]
        exact setRow_heap _ _ _ _ _ _ HBV.out
      have hBW4 : Blk w4 w1.heap.size 291 (n32 W).toArray := by
        rw [← hw4]
        exact (setRow_other _ _ _ _ (by omega)).trans HBW.out
      have hb4 : Below w.heap.size w w4 := by
        rw [← hw4]
        exact below_setRow (below_drewN HB.out _).drew (by omega) _
      clear hw4
      have g0 := hBV4.cell 0
      have g4 := hBV4.cell 4
      have q0 := hBV4.frozen 0
      have q4 := hBV4.frozen 4
      simp only [n32, List.map_cons, List.map_nil, List.getElem?_toArray, List.getElem?_cons_zero, List.getElem?_cons_succ] at g0 g4
      clear f0 f1 f2 f3 f4 f5 f6 f7 fw fk
      have HBV4 := Lib.hid hBV4
      have HBW4 := Lib.hid hBW4
      have HB4 := Lib.hid hb4
      clear hBV4 hBW4 hb4 HBV HBW HB
      go_wp2_with fail
      go_roundw
      case measure => simp [intOf]; omega
      case rel =>
        refine ⟨k + 1, by omega, by go_num, ?_, ?_, ?_⟩
        · exact (HBW4.out.far (by simp) _).far (by simp) _
        · show Blk _ _ _ (n32 (round1 (rounds st ks W k) (wd ks k) (wd W k))).toArray
          rw [HV.out]
          exact (HBV4.out.set_ 4 _).set_ 0 _
        · exact (HB4.out.setCell (by simp; omega) _).setCell (by simp; omega) _
    · obtain rfl : k = 64 := by omega
      have hd : decide (((64 : Nat) : Int) < 64) = false := by simp
      have HBV := Lib.hid hBV
      have HB := Lib.hid hb
      clear hBV hb hBW hlt hk HS HSI HA HR H8 H8i HA8 Hw
      rw [show ((64 : Nat) : Int) = 64 from rfl]
      go_wp2_with fail
      have HG := Lib.hid hg
      clear hg
      generalize hV : rounds st ks W 64 = V at *
      have HV := Lib.hid hV
      have hVl : V.length = 8 := by rw [← hV]; exact rounds_length st ks W h1 64
      have HVl := Lib.hid hVl
      clear hV hVl hd h
      go_loopw [12, 98] (fun _ i wr => ∃ k : Nat, k ≤ 8 ∧ i = .int .i64 k ∧ Blk wr g 294 (hc (addUp st V k) ks wt many all) ∧ Blk wr (w1.heap.size + 1) 289 (n32 V).toArray ∧ w.grownBy wr (some g)) (fun _ i _ => 8 - (intOf i).toNat)
      case atStart => exact ⟨0, by omega, rfl, HG.out.below HB.out HG.out.lt, HBV.out, grown_of_below HB.out _⟩
      case round =>
        clear HB HBV
        obtain ⟨k, hk, rfl, hG, hBV, hgr⟩ := hrel
        have hgl := HG.out.lt
        have hu : (addUp st V k).length = 8 := by rw [addUp_length]; exact h1
        by_cases hlt : k < 8
        · have hd : decide ((k : Int) < 8) = true := by simp; omega
          have fv := word_cell hBV (i := k) (by rw [HVl.out]; omega)
          have fs : wr.cell? ⟨g, k, none⟩ = some (.int .u32 (wd st k)) := ((hG.cell k).trans (hc_state hu hlt)).trans (by rw [addUp_get _ _ _ _ (Nat.le_refl _)])
          have ff := hG.frozen k
          have HGG := Lib.hid hG
          have HBV := Lib.hid hBV
          have HGR := Lib.hid hgr
          have HU := Lib.hid hu
          clear hG hBV hgr hu h1 h2 hx
          go_wp2_with fail
          go_region
          go_wp2_with fail
          go_roundw
          case measure => simp [intOf]; omega
          case rel =>
            refine ⟨k + 1, by omega, by go_num, ?_, ?_, ?_⟩
            · have h6 := HGG.out.set_ k (.int .u32 ((wd st k + wd V k) % 4294967296))
              rw [hc_set_state HU.out hlt] at h6
              exact h6
            · exact (HBV.out.drewN _).far (by simp; omega) _
            · exact grown_setCell (grown_drewN HGR.out _) (.inl rfl) _
        · obtain rfl : k = 8 := by omega
          have hd : decide (((8 : Nat) : Int) < 8) = false := by simp
          rw [show ((8 : Nat) : Int) = 8 from rfl]
          have HGG := Lib.hid hG
          have HGR := Lib.hid hgr
          clear hG hBV hgr hu
          go_wp2_with fail
          go_end0
          refine ⟨rfl, ?_, HGR.out⟩
          unfold work
          rw [HW.out, HV.out]
          exact HGG.out

end Go.Proofs.YtkenmpggblefiaaGreatDoor
