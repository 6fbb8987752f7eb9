/- The walks of the program's crypt. -/
import Derived.Test.YtkenmpggblefiaaGreatDoorK0
import Derived.Laws.CopyOwn
namespace Go.Proofs.YtkenmpggblefiaaGreatDoor
open Go.RowKit
attribute [local go_sem ↓] Go.wp_at_zero Go.wp_at_succ

/-- what a crypt has been asked for: the real one; a book of texts -/
inductive Cr where
  | real
  | book (ts : List (List UInt8))
/-- a text's number as a digest -/
def sumB (n : Nat) : List UInt8 := [83, 85, 77, 33] ++ (List.replicate 20 0 ++ beB n 8)
theorem sumB_length (n : Nat) : (sumB n).length = 32 := by simp [sumB, beB_length]
def Cr.dig : Cr → List UInt8 → List UInt8
  | .real, xs => shaOf xs
  | .book ts, xs => sumB (ts.idxOf xs)
def Cr.next : Cr → List UInt8 → Cr
  | .real, _ => .real
  | .book ts, xs => .book (if xs ∈ ts then ts else ts ++ [xs])
theorem Cr.dig_length (s : Cr) (xs : List UInt8) : (s.dig xs).length = 32 := by
  cases s
  · exact shaOf_length xs
  · exact sumB_length _
def Cr.many : Cr → Nat
  | .real => 0
  | .book ts => ts.length

/-- the program's book: p its block, b its map's, vb its boxes -/
structure BookIs (w : World) (p b : Nat) (vb : Value) (ts : List (List UInt8)) : Prop where
  head : Blk w p 73 #[.map (some b), vb]
  map : MapIs w b ts
theorem MapIs.lt {w : World} {b : Nat} {ts : List (List UInt8)} (h : MapIs w b ts) : b < w.heap.size := by
  rcases Nat.lt_or_ge b w.heap.size with hlt | hge
  · exact hlt
  · unfold MapIs at h; rw [Array.getElem?_eq_none hge] at h; cases h
theorem BookIs.ne {w : World} {p b : Nat} {vb : Value} {ts : List (List UInt8)} (h : BookIs w p b vb ts) : p ≠ b := by
  rintro rfl
  have h1 := h.head
  have h2 := h.map
  unfold Blk at h1
  unfold MapIs at h2
  rw [h1] at h2
  cases h2

set_option maxHeartbeats 400000 in
theorem Book_any (w : World) :
    Calls Tryz.prog 15 #[] w fun e w' => ∃ p b, e = .returned (.iface 69 (.pointer (some ⟨p, 0, none⟩))) ∧ w.heap.size ≤ p ∧ w.heap.size ≤ b ∧ BookIs w' p b (.slice none 0 0) [] ∧ Below w.heap.size w w' := by
  go_enter Tryz.func15, Tryz.ntmps15
  have hmk := run_makeMap (P := Tryz.prog) 70
  go_wp2_with fail
  go_ret
  exact ⟨_, _, rfl, by omega, Nat.le_refl _, ⟨heap_alloc2_new w _ _, heap_alloc2_old w _ _⟩, ((Below.refl _ _).alloc (Nat.le_refl _) _).alloc (by simp) _⟩
theorem Real_any (w : World) :
    Calls Tryz.prog 17 #[] w fun e w' => e = .returned (.iface 86 (.agg #[])) ∧ w = w' := by
  go_enter Tryz.func17, Tryz.ntmps17
  go_wp2_with fail
  go_ret
  exact ⟨rfl, rfl⟩
set_option maxHeartbeats 400000 in
theorem actualSum_any (A : Option Addr) (c n : Nat) (xs : List UInt8) (w : World) (h : HasB w A n xs) (hnc : n ≤ c) (hx : n < 1152921504606846976) :
    Calls Tryz.prog 225 #[.agg #[], .slice A n c] w fun e w' => ∃ x, e = .returned x ∧ w'.ownsRow w.heap.size 5 1 x (shaOf xs).length (bts (shaOf xs)) ∧ Below w.heap.size w w' := by
  have hl := h.len
  subst hl
  go_enter Tryz.func225, Tryz.ntmps225
  go_wp2_with fail
  refine (Of_any A c xs _ (h.kept (below_new w _)).row hnc hx).mono ?_
  rintro e w' ⟨x, rfl, ho, hb⟩
  go_wp2_with fail
  go_ret
  rw [shaOf_length]
  exact ⟨_, rfl, ⟨ho.1, ho.2.imp id (fun ⟨a, b, d, e1, e2, e3⟩ => ⟨a, b, d, e1, by simp at e2; omega, e3⟩)⟩, below_step (below_new w _) (by simp) hb⟩
theorem sum_row (Z : List Value) (hZ : Z = bts (List.replicate 32 0)) : (Z.toArray.toList.take 0 ++ Lib.byteCells (⟨#[83, 85, 77, 33]⟩ : ByteArray).data.toList ++ Z.toArray.toList.drop (0 + (⟨#[83, 85, 77, 33]⟩ : ByteArray).size)) = bts ([83, 85, 77, 33] ++ List.replicate 28 0) := by
  subst hZ
  rfl

theorem sum_splice (k : Nat) (Z : List Value) (hZ : Z = bts ([83, 85, 77, 33] ++ List.replicate 28 0)) : splice Z 24 (bts (beB k 8)) = bts (sumB k) := by
  subst hZ
  rfl

set_option maxHeartbeats 400000 in
set_option maxRecDepth 100000 in
theorem bookSum_any (p b : Nat) (vb : Value) (ts : List (List UInt8)) (A : Option Addr) (c n : Nat) (xs : List UInt8) (w : World) (h : HasB w A n xs) (hb : BookIs w p b vb ts) (hx : n < 1152921504606846976) (hm : ts.length < 1152921504606846976) :
    Calls Tryz.prog 221 #[.pointer (some ⟨p, 0, none⟩), .slice A n c] w fun e w' => ∃ x, e = .returned x ∧ w'.ownsRow w.heap.size 5 1 x 32 (bts (sumB (ts.idxOf xs))) ∧ BookIs w' p b vb (if xs ∈ ts then ts else ts ++ [xs]) ∧ w.grownBy w' (some b) := by
  have hcv : ∀ m, (convert 33 9 (.slice A n c)).run Tryz.prog (w.drewN m) = .ok (.string (bs xs)) (w.drewN m) := fun m =>
    run_bytes_string (ok := old w) (h.row.move fun b hb _ => ⟨hb, rfl⟩) h.len Tryz.underlying33 Tryz.underlying5 Tryz.underlying9
  have hlk : ∀ m, (Instr.lookup 70 (.map (some b)) (.string (bs xs)) true).run Tryz.prog (w.drewN m) = .ok (.tuple #[.int .i64 (if xs ∈ ts then ((ts.idxOf xs : Nat) : Int) else 0), .bool (decide (xs ∈ ts))]) (w.drewN m) := fun m =>
    run_lookup_book (w := w.drewN m) (show MapIs _ _ _ from hb.map) Tryz.underlying70 Tryz.underlying9 Tryz.underlying3 (by kernel_rfl) xs
  generalize hiv : (if xs ∈ ts then ((ts.idxOf xs : Nat) : Int) else 0) = iv at hlk
  generalize hfb : decide (xs ∈ ts) = fb at hlk
  have HIV := Lib.hid hiv
  have HFB := Lib.hid hfb
  clear hiv hfb
  have hc0 : w.cell? ⟨p, 0, none⟩ = some (.map (some b)) := hb.head.cell 0
  have H := Lib.hid h
  have HB := Lib.hid hb
  clear h hb
  go_enter Tryz.func221, Tryz.ntmps221
  go_wp2_with fail
  go_quiet (fail)
  have hmk : ∀ W : World, (Instr.makeSlice 33 (.int .i64 32) (.int .i64 32)).run Tryz.prog W = .ok (.slice (some ⟨W.heap.size, 0, none⟩) 32 32) (W.alloc (.cells (bts (List.replicate 32 0)).toArray 5)) := run_make_bytes 32 (by omega)
  generalize hZ : bts (List.replicate 32 0) = Z at hmk
  have HZ := Lib.hid hZ
  have HZL : Hid (Z.length = 32) := by show _ = _; rw [← hZ]; rfl
  clear hZ
  cases fb
  · have hmem : xs ∉ ts := of_decide_eq_false HFB.out
    have hk : ts.idxOf xs = ts.length := by
      rw [List.idxOf_eq_length hmem]
    have hcv1 : (convert 33 9 (.slice A n c)).run Tryz.prog (w.drewN nq).drew = .ok (.string (bs xs)) (w.drewN nq).drew :=
      run_bytes_string (ok := old w) (H.out.row.move fun b hb _ => ⟨hb, rfl⟩) H.out.len Tryz.underlying33 Tryz.underlying5 Tryz.underlying9
    have HB1 := Lib.hid (show BookIs (w.drewN nq) p b vb ts from ⟨HB.out.head, HB.out.map⟩)
    have HG1 := Lib.hid (grown_drewN (World.grownBy.refl w (some b)) nq)
    replace hc0 : (w.drewN nq).cell? ⟨p, 0, none⟩ = some (.map (some b)) := hc0
    generalize hw1 : w.drewN nq = w1 at *
    clear hw1 hlk hcv
    have hlen := run_len_book (P := Tryz.prog) (t := 70) (k := 9) (e := 3) HB1.out.map Tryz.underlying70 3
    have hup := run_mapUpdate_book (P := Tryz.prog) (w := w1.drew) (t := 70) (k := 9) (e := 3) (show MapIs _ _ _ from HB1.out.map) Tryz.underlying70 Tryz.underlying9 xs hmem
    obtain ⟨w2, hw2⟩ : ∃ w2 : World, w2 = { w1.drew with heap := w1.drew.heap.setIfInBounds b (.map (ents (ts ++ [xs])).toArray (ts.length + 1)) } := ⟨_, rfl⟩
    rw [← hw2] at hup
    have hset := Go.MapKept.heap_set (w := w1) (o' := .map (ents (ts ++ [xs])).toArray (ts.length + 1)) HB1.out.map
    have hh2 : w2.heap = w1.heap.setIfInBounds b (.map (ents (ts ++ [xs])).toArray (ts.length + 1)) := by rw [hw2]; rfl
    have HB2 : Hid (BookIs w2 p b vb (ts ++ [xs])) := ⟨by
      show w2.heap[p]? = _
      rw [hh2, hset.2 p HB1.out.ne]
      exact HB1.out.head, by
      show w2.heap[b]? = _
      rw [hh2, hset.1]
      simp⟩
    have hg12 : w1.grownBy w2 (some b) := ⟨by rw [hw2]; rfl, by rw [hw2]; rfl, by rw [hw2]; rfl, by rw [hh2]; simp, fun i _ hne => by rw [hh2]; exact hset.2 i (fun e => hne (by rw [e]))⟩
    have HG2 := Lib.hid (grown_trans HG1.out hg12)
    have HW := Lib.hid hw2
    clear hw2 hset hh2 hg12
    go_wp2_with fail
    go_still_tail 7, (by kernel_rfl)
    change wpList _ _ _ _ _ w1.drew
    go_upto_region 5 with (fail)
    generalize hkk : ts.length = k at *
    go_wp2_with (first
      | (with_reducible change wpList _ _ _ ({ dst := some 34, op := _, type := _, pos := _, after := _, guard := _ } :: _) _ _; go_must (refine wpList_copy_eq _ rfl (.tmp 33) (.const (.string ⟨#[83, 85, 77, 33]⟩)) 33 9 rfl (.slice (some ⟨w2.heap.size, 0, none⟩) 32 32) (.string ⟨#[83, 85, 77, 33]⟩) rfl rfl (Lib.run_copy_row_string _ _ _ _ 5 w2.heap.size 0 32 32 ⟨#[83, 85, 77, 33]⟩ Z.toArray 5 Tryz.underlying33 (by kernel_rfl) (heap_alloc_new w2 _) (by decide) (by simp [HZL.out]; decide)) ?_)
         rw [sum_row Z HZ.out.symm, World.setRow_alloc_new]))
    generalize hZ2 : bts ([83, 85, 77, 33] ++ List.replicate 28 0) = Z2
    have HZ2 := Lib.hid hZ2
    clear hZ2
    have hwr : IntKind.u64.wrap (k : Int) = (k : Int) := IntWalk.u64_in _ (by omega)
    have HZ2L : Hid (Z2.length = 32) := by show _ = _; rw [← HZ2.out]; rfl
    go_region_held3 (fun _ => True) (exact True.intro) (first
      | (go_at_call 222; refine (Big64_any k _ (by omega)).mono ?_; rintro e w3 ⟨x, rfl, hx, hb3⟩; obtain ⟨Ax, cx, rfl, hX⟩ := ownB_of hx; clear hx; obtain ⟨ad, rfl⟩ := hX.some_ (by omega); have hcl := hX.cells ad rfl;
         have hZ3 : Blk w3 w2.heap.size 5 Z2.toArray := Blk.step (w := (w2.alloc _).drew) (Blk.new w2 _ _) hb3;
         have hB3 : Below w2.heap.size w2 w3 := below_step (w1 := (w2.alloc _).drew) ((below_new w2 _).drew) (by simp) hb3; clear hb3)
      | (refine step_copy_splice (by rfl) (.tmp 36) (.tmp 39) 33 33 (by rfl) 5 Tryz.underlying33 (by kernel_rfl) (some ⟨w2.heap.size, 24, none⟩) (some ad) 8 8 8 cx (by rfl) (by rfl) w2.heap.size 24 Z2 5 hZ3 (bts (beB k 8)) (by rw [bts_length, beB_length]; rfl) (fun _ => ⟨rfl, ad, rfl, hcl⟩) (by rw [bts_length, beB_length, HZ2L.out]; omega) (bts_one _) w2.heap.size w2 hB3 (Nat.le_refl _) ?_; intro w4 hZ4 hB4; rw [bts_length, beB_length])
      | fail)
    go_wp2_with fail
    go_ret
    refine ⟨_, rfl, ?_, ?_, grown_below HG2.out hB4⟩
    · try rw [hk]
      refine own_of_blk (w := w4) (xs := bts (sumB k)) ?_ HG2.out.size (by rw [bts_length, sumB_length]) (by simp [maxLen])
      have h9 : w4.heap[w2.heap.size]? = some (Obj.cells (splice Z2 24 (bts (beB k 8))).toArray 5) := hZ4.out
      rw [sum_splice k Z2 HZ2.out.symm] at h9
      exact h9
    · try rw [if_neg hmem]
      exact ⟨HB2.out.head.step hB4, (hB4.block b HB2.out.map.lt).trans HB2.out.map⟩
  · have hmem : xs ∈ ts := of_decide_eq_true HFB.out
    obtain rfl : iv = ((ts.idxOf xs : Nat) : Int) := by have := HIV.out; rw [if_pos hmem] at this; exact this.symm
    have hki : ts.idxOf xs < ts.length := List.idxOf_lt_length_iff.2 hmem
    generalize hk : ts.idxOf xs = k at *
    go_upto_region 5 with (fail)
    have HB2 := Lib.hid (show BookIs (w.drewN nq) p b vb ts from ⟨HB.out.head, HB.out.map⟩)
    have HG2 := Lib.hid (grown_drewN (World.grownBy.refl w (some b)) nq)
    generalize hw2 : w.drewN nq = w2 at *
    go_wp2_with (first
      | (with_reducible change wpList _ _ _ ({ dst := some 34, op := _, type := _, pos := _, after := _, guard := _ } :: _) _ _; go_must (refine wpList_copy_eq _ rfl (.tmp 33) (.const (.string ⟨#[83, 85, 77, 33]⟩)) 33 9 rfl (.slice (some ⟨w2.heap.size, 0, none⟩) 32 32) (.string ⟨#[83, 85, 77, 33]⟩) rfl rfl (Lib.run_copy_row_string _ _ _ _ 5 w2.heap.size 0 32 32 ⟨#[83, 85, 77, 33]⟩ Z.toArray 5 Tryz.underlying33 (by kernel_rfl) (heap_alloc_new w2 _) (by decide) (by simp [HZL.out]; decide)) ?_)
         rw [sum_row Z HZ.out.symm, World.setRow_alloc_new]))
    generalize hZ2 : bts ([83, 85, 77, 33] ++ List.replicate 28 0) = Z2
    have HZ2 := Lib.hid hZ2
    clear hZ2
    have hwr : IntKind.u64.wrap (k : Int) = (k : Int) := IntWalk.u64_in _ (by omega)
    have HZ2L : Hid (Z2.length = 32) := by show _ = _; rw [← HZ2.out]; rfl
    go_region_held3 (fun _ => True) (exact True.intro) (first
      | (go_at_call 222; refine (Big64_any k _ (by omega)).mono ?_; rintro e w3 ⟨x, rfl, hx, hb3⟩; obtain ⟨Ax, cx, rfl, hX⟩ := ownB_of hx; clear hx; obtain ⟨ad, rfl⟩ := hX.some_ (by omega); have hcl := hX.cells ad rfl;
         have hZ3 : Blk w3 w2.heap.size 5 Z2.toArray := Blk.step (w := (w2.alloc _).drew) (Blk.new w2 _ _) hb3;
         have hB3 : Below w2.heap.size w2 w3 := below_step (w1 := (w2.alloc _).drew) ((below_new w2 _).drew) (by simp) hb3; clear hb3)
      | (refine step_copy_splice (by rfl) (.tmp 36) (.tmp 39) 33 33 (by rfl) 5 Tryz.underlying33 (by kernel_rfl) (some ⟨w2.heap.size, 24, none⟩) (some ad) 8 8 8 cx (by rfl) (by rfl) w2.heap.size 24 Z2 5 hZ3 (bts (beB k 8)) (by rw [bts_length, beB_length]; rfl) (fun _ => ⟨rfl, ad, rfl, hcl⟩) (by rw [bts_length, beB_length, HZ2L.out]; omega) (bts_one _) w2.heap.size w2 hB3 (Nat.le_refl _) ?_; intro w4 hZ4 hB4; rw [bts_length, beB_length])
      | fail)
    go_wp2_with fail
    go_ret
    refine ⟨_, rfl, own_of_blk (w := w4) (xs := bts (sumB k)) ?_ HG2.out.size (by rw [bts_length, sumB_length]) (by simp [maxLen]), ⟨HB2.out.head.step hB4, ?_⟩, grown_below HG2.out hB4⟩
    · have h9 : w4.heap[w2.heap.size]? = some (Obj.cells (splice Z2 24 (bts (beB k 8))).toArray 5) := hZ4.out
      rw [sum_splice k Z2 HZ2.out.symm] at h9
      exact h9
    · exact (hB4.block b HB2.out.map.lt).trans HB2.out.map
end Go.Proofs.YtkenmpggblefiaaGreatDoor
