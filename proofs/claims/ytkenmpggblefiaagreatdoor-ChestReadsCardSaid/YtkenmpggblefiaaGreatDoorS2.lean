/- The walks of package sha: Add, Sum, Of. -/
import Derived.Test.YtkenmpggblefiaaGreatDoorS1
namespace Go.Proofs.YtkenmpggblefiaaGreatDoor
open Go.RowKit

/-- a slice's length -/
def slen : Value → Nat
  | .slice _ n _ => n
  | _ => 0

theorem row_wait {w : World} {g : Nat} {st ks : List Int} {wt : List UInt8} {many : Nat} {all : Int} (h : Blk w g 294 (hc st ks wt many all)) (h1 : st.length = 8) (h2 : ks.length = 64) (h3 : wt.length = 64) :
    RowV Kn.byte w (old w) (some ⟨g, 72, none⟩) wt := by
  refine RowV.of_bytes (by omega) (fun _ => h.lt) fun j u hu => ?_
  have hj : j < 64 := by
    rcases Nat.lt_or_ge j 64 with q | q
    · exact q
    · rw [List.getElem?_eq_none (by simp [bts]; omega)] at hu; cases hu
  rw [add_plain, h.cell, hc_wait h1 h2 h3 hj]
  rw [bts_get, List.getElem?_eq_getElem (by omega)] at hu
  rw [List.getElem?_eq_getElem (by omega)]
  exact hu

set_option maxHeartbeats 400000 in
set_option maxRecDepth 100000 in
theorem Add_any (g : Nat) (A : Option Addr) (c : Nat) (xs : List UInt8) (h : HS) (ks : List Int) (all : Nat) (w : World) (hr : RowV Kn.byte w (fun k => k < w.heap.size ∧ k ≠ g) A xs) (hxc : xs.length ≤ c)
    (hg : Blk w g 294 (hc h.st ks h.wt h.many all)) (ho : h.Ok) (h2 : ks.length = 64) (hall : all + xs.length < 18446744073709551616) :
    Calls Tryz.prog 228 #[.pointer (some ⟨g, 0, none⟩), .slice A xs.length c] w fun e w' => e = .returned (.tuple #[]) ∧
      Blk w' g 294 (hc (h.feeds ks xs).st ks (h.feeds ks xs).wt (h.feeds ks xs).many (all + xs.length : Nat)) ∧ w.grownBy w' (some g) := by
  have hx63 := hr.1
  have fa := (hg.cell 137).trans (hc_all ho.st h2 ho.wt)
  have ff := hg.frozen 137
  have ho1 := ho.st
  have ho3 := ho.wt
  have HG := Lib.hid hg
  have HR := Lib.hid hr
  have HO := Lib.hid ho
  have HO1 := Lib.hid ho1
  have HO3 := Lib.hid ho3
  have HK := Lib.hid h2
  clear hg hr ho ho1 ho3 h2
  go_enter Tryz.func228, Tryz.ntmps228
  go_wp2_with fail
  have hgl := HG.out.lt
  go_loopw [1, 4] (fun b _ wr => ∃ (k : Nat) (A' : Option Addr) (c' : Nat), k ≤ xs.length ∧ b = .slice A' (xs.length - k) c' ∧ xs.length - k ≤ c' ∧ RowV Kn.byte w (fun b => b < w.heap.size ∧ b ≠ g) A' (xs.drop k) ∧
      Blk wr g 294 (hc (h.feeds ks (xs.take k)).st ks (h.feeds ks (xs.take k)).wt (h.feeds ks (xs.take k)).many (all + xs.length : Nat)) ∧ w.grownBy wr (some g)) (fun b _ _ => slen b)
  case atStart =>
    refine ⟨0, A, c, by omega, rfl, by omega, HR.out, ?_, grown_setCell (World.grownBy.refl _ _) (.inl rfl) _⟩
    have h5 := HG.out.set_ 137 (.int .u64 ((all + xs.length : Nat) : Int))
    rw [hc_set_all HO1.out HK.out HO3.out] at h5
    exact h5
  case round =>
    obtain ⟨k, A', c', hk, rfl, hc', hR, hB, hgr⟩ := hrel
    have hO : ((h.feeds ks (xs.take k))).Ok := HO.out.feeds ks _
    have hfe : h.feeds ks xs = (h.feeds ks (xs.take k)).feeds ks (xs.drop k) := by rw [← HS.feeds_append, List.take_append_drop]
    have hfe2 : ∀ n, h.feeds ks (xs.take (k + n)) = (h.feeds ks (xs.take k)).feeds ks ((xs.drop k).take n) := fun n => by rw [← HS.feeds_append, List.take_add]
    generalize hH : h.feeds ks (xs.take k) = H at *
    have HFE := Lib.hid hfe
    have HFE2 := Lib.hid hfe2
    have hm := hO.many
    have o1 := hO.st
    have o3 := hO.wt
    have hmc := (hB.cell 136).trans (hc_many o1 HK.out o3)
    have hmf := hB.frozen 136
    have HB := Lib.hid hB
    have HRR := Lib.hid hR
    have HGR := Lib.hid hgr
    have HHO := Lib.hid hO
    have O1 := Lib.hid o1
    have O3 := Lib.hid o3
    clear hfe hfe2 hB hR hgr hO o1 o3 fa ff hH
    by_cases hlt : k < xs.length
    · have hd : decide (((xs.length - k : Nat) : Int) > 0) = true := by simp; omega
      obtain ⟨ad, rfl, _⟩ := HRR.out.2 (by simp; omega)
      have hne : ¬ 64 = H.many := by omega
      have hb0 : (0 : Int) ≤ (H.many : Int) := by omega
      have hb1 : (H.many : Int) ≤ 64 := by omega
      have hb2 : H.many ≤ 64 := by omega
      go_wp2_with fail
      go_still_tail 9, (by kernel_rfl)
      obtain ⟨n, hn⟩ : ∃ n, n = Nat.min (xs.length - k) (64 - H.many) := ⟨_, rfl⟩
      have hn1 : n ≤ xs.length - k := by rw [hn]; exact Nat.min_le_left _ _
      have hn2 : H.many + n ≤ 64 := by have : n ≤ 64 - H.many := by rw [hn]; exact Nat.min_le_right _ _
                                       omega
      have hn0 : 0 < n := by rw [hn]; exact Nat.lt_min.2 ⟨by omega, by omega⟩
      have hcl : ((xs.drop k).take n).length = n := by simp; omega
      have hcb : (bts ((xs.drop k).take n)).length = n := by rw [bts_length, hcl]
      have HN := Lib.hid hn
      have HCL := Lib.hid hcl
      have HCB := Lib.hid hcb
      clear hn hcl hcb
      refine wpList_copy_own rfl (.tmp 25) (.tmp 26) 33 33 rfl 5 Tryz.underlying33 (by kernel_rfl) g (72 + H.many) (64 - H.many) (64 - H.many) ad (xs.length - k) c' rfl rfl
        (hc H.st ks H.wt H.many (all + xs.length : Nat)) 294 HB.out (bts ((xs.drop k).take n)) (HCB.out.trans HN.out) ?_ ?_ (bts_one _) ?_
      · intro j v hv
        have hc1 := row_bytes_cells (HRR.out.take n) ad rfl j v hv
        have hbl := block_of_add ad j
        obtain ⟨ad', e', ho', _⟩ := HRR.out.2 (by simp; omega)
        cases e'
        refine (cell_of_same ?_).trans hc1
        show wr.heap[_]? = _
        rw [hbl]
        exact HGR.out.block _ ho'.1 (fun e => ho'.2 (by injection e))
      · rw [HCB.out, hc_size O1.out HK.out O3.out]; omega
      rw [hc_copy O1.out HK.out O3.out _ _ (by rw [HCL.out]; exact hn2), HCB.out]
      generalize hL : lay H.wt H.many ((xs.drop k).take n) = L
      have oL : L.length = 64 := by rw [← hL, lay_length _ _ _ (by rw [HCL.out, O3.out]; exact hn2), O3.out]
      have OL := Lib.hid oL
      have HLL := Lib.hid hL
      clear oL hL
      generalize hw5 : World.setRow _ _ _ = w5
      have hB5 : Blk w5 g 294 (hc H.st ks L H.many (all + xs.length : Nat)) := by
        rw [← hw5]
        exact setRow_heap _ _ _ _ _ _ HB.out
      have hg5 : w.grownBy w5 (some g) := by
        rw [← hw5]
        exact grown_setRow (grown_drew HGR.out) (.inl rfl) _
      clear hw5
      have hm5 := (hB5.cell 136).trans (hc_many O1.out HK.out OL.out)
      have hf5 := hB5.frozen 136
      have HB5 := Lib.hid hB5
      have HG5 := Lib.hid hg5
      clear hB5 hg5 hmc hmf
      have hn3 : (n : Int) ≤ (c' : Int) := by omega
      have hn4 : n ≤ c' := by omega
      have hadd : Go.IntKind.i64.wrap ((H.many : Int) + (n : Int)) = ((H.many + n : Nat) : Int) := by
        rw [IntWalk.i64_in _ (by omega)]; simp
      change wpList _ _ _ _ (Act.put _ (some 27) (.int .i64 (n : Int))) _
      have hB6 : Blk (w5.setCell ⟨g, 136, none⟩ (.int .i64 ((H.many : Int) + (n : Int)))) g 294 (hc H.st ks L (H.many + n) (all + xs.length : Nat)) := by
        have h6 := HB5.out.set_ 136 (.int .i64 ((H.many + n : Nat) : Int))
        rw [hc_set_many O1.out HK.out OL.out, Int.natCast_add] at h6
        exact h6
      have hg6 : w.grownBy (w5.setCell ⟨g, 136, none⟩ (.int .i64 ((H.many : Int) + (n : Int)))) (some g) := grown_setCell HG5.out (.inl rfl) _
      have hcut : RowV Kn.byte w (fun b => b < w.heap.size ∧ b ≠ g) (if c' = n then some ad else some (ad.add n)) (xs.drop (k + n)) := by
        have h7 := HRR.out.cut (k := n) (c := c') (by simp; omega) (by simp; omega)
        rw [List.drop_drop] at h7
        simpa [Kn.byte, Kn.scalar] using h7
      have HB6 := Lib.hid hB6
      have HG6 := Lib.hid hg6
      have HCUT := Lib.hid hcut
      clear hB6 hg6 hcut hadd
      by_cases hfull : H.many + n = 64
      · have heq : ((H.many : Int) + (n : Int) == 64) = true := by rw [beq_iff_eq]; omega
        have hst : HS.feeds ks h (xs.take (k + n)) = ⟨work H.st ks L, L, 0⟩ := by
          rw [HFE2.out n, HS.feeds_full ks H HHO.out _ (by rw [HCL.out]; exact hfull), HLL.out]
        have HST := Lib.hid hst
        have HFULL := Lib.hid hfull
        clear hst hfull
        by_cases hcn : c' = n
        · have HCN := Lib.hid hcn
          have hcn1 : (c' = n) = True := by simp [hcn]
          clear hcn
          {
            go_wp2_with (go_at_call 232; refine (block_any g ⟨g, 72, none⟩ 64 L L H.st ks (H.many + n) (all + xs.length : Nat) _ (row_wait HB6.out O1.out HK.out OL.out) OL.out (Nat.le_refl _) HB6.out O1.out HK.out).mono ?_; rintro e w7 ⟨rfl, hB7, hg7⟩; (obtain ⟨u7, h137⟩ := hB7.has 136 (by rw [hc_size (by rw [work_length]; exact O1.out) HK.out OL.out]; omega)); have hf7 := hB7.frozen 136; have HB7 := Lib.hid hB7; have HG7 := Lib.hid hg7; clear hB7 hg7)
            go_roundw
            case rel =>
              refine ⟨k + n, _, _, by omega, by rw [Nat.sub_sub], by omega, (by have := HCUT.out; rw [if_pos HCN.out] at this; exact this), ?_, ?_⟩
              · have h8 := HB7.out.set_ 136 (.int .i64 ((0 : Nat) : Int))
                rw [hc_set_many (by rw [work_length]; exact O1.out) HK.out OL.out] at h8
                rw [HST.out]
                exact h8
              · exact grown_setCell (grown_trans HG6.out HG7.out) (.inl rfl) _
            case measure => simp [slen]; omega
          }
        · {
          go_wp2_with (go_at_call 232; refine (block_any g ⟨g, 72, none⟩ 64 L L H.st ks (H.many + n) (all + xs.length : Nat) _ (row_wait HB6.out O1.out HK.out OL.out) OL.out (Nat.le_refl _) HB6.out O1.out HK.out).mono ?_; rintro e w7 ⟨rfl, hB7, hg7⟩; (obtain ⟨u7, h137⟩ := hB7.has 136 (by rw [hc_size (by rw [work_length]; exact O1.out) HK.out OL.out]; omega)); have hf7 := hB7.frozen 136; have HB7 := Lib.hid hB7; have HG7 := Lib.hid hg7; clear hB7 hg7)
          go_roundw
          case rel =>
            refine ⟨k + n, _, _, by omega, by rw [Nat.sub_sub], by omega, (by have := HCUT.out; rw [if_neg hcn] at this; exact this), ?_, ?_⟩
            · have h8 := HB7.out.set_ 136 (.int .i64 ((0 : Nat) : Int))
              rw [hc_set_many (by rw [work_length]; exact O1.out) HK.out OL.out] at h8
              rw [HST.out]
              exact h8
            · exact grown_setCell (grown_trans HG6.out HG7.out) (.inl rfl) _
          case measure => simp [slen]; omega
        }
      · have heq : ((H.many : Int) + (n : Int) == 64) = false := by rw [beq_eq_false_iff_ne]; omega
        have hst : HS.feeds ks h (xs.take (k + n)) = ⟨H.st, L, H.many + n⟩ := by
          rw [HFE2.out n, HS.feeds_lay ks _ H HHO.out (by rw [HCL.out]; omega), HLL.out, HCL.out]
        have HST := Lib.hid hst
        clear hst
        by_cases hcn : c' = n
        · have HCN := Lib.hid hcn
          have hcn1 : (c' = n) = True := by simp [hcn]
          clear hcn
          {
            go_wp2_with fail
            go_roundw
            case rel =>
              refine ⟨k + n, _, _, by omega, by rw [Nat.sub_sub], by omega, (by have := HCUT.out; rw [if_pos HCN.out] at this; exact this), ?_, HG6.out⟩
              rw [HST.out]
              exact HB6.out
            case measure => simp [slen]; omega
          }
        · {
          go_wp2_with fail
          go_roundw
          case rel =>
            refine ⟨k + n, _, _, by omega, by rw [Nat.sub_sub], by omega, (by have := HCUT.out; rw [if_neg hcn] at this; exact this), ?_, HG6.out⟩
            rw [HST.out]
            exact HB6.out
          case measure => simp [slen]; omega
        }
    · have hd : decide (((xs.length - k : Nat) : Int) > 0) = false := by simp; omega
      obtain rfl : k = xs.length := by omega
      go_wp2_with fail
      go_end0
      refine ⟨rfl, ?_, HGR.out⟩
      have := HFE.out
      rw [List.drop_length, HS.feeds_nil] at this
      rw [this]
      exact HB.out

set_option maxHeartbeats 400000 in
set_option maxRecDepth 100000 in
theorem beginning_any (w : World) :
    Calls Tryz.prog 230 #[] w fun e w' => e = .returned (.agg (n32 hSha).toArray) ∧ Below w.heap.size w w' := by
  go_enter Tryz.func230, Tryz.ntmps230
  go_wp2
  exact bodyPost_ret (results_cell_row rfl _ _ w.heap.size 289 _ (0, 0) _ rfl (heap_alloc_new w _) Tryz.underlying289 rfl arr8_size) rfl ⟨rfl, (Below.refl _ _).alloc (Nat.le_refl _) _⟩

theorem Add_n (g : Nat) (A : Option Addr) (c n : Nat) (xs : List UInt8) (h : HS) (ks : List Int) (all : Nat) (w : World) (hr : RowV Kn.byte w (fun k => k < w.heap.size ∧ k ≠ g) A xs) (hn : xs.length = n) (hxc : n ≤ c)
    (hg : Blk w g 294 (hc h.st ks h.wt h.many all)) (ho : h.Ok) (h2 : ks.length = 64) (hall : all + n < 18446744073709551616) :
    Calls Tryz.prog 228 #[.pointer (some ⟨g, 0, none⟩), .slice A n c] w fun e w' => e = .returned (.tuple #[]) ∧
      Blk w' g 294 (hc (h.feeds ks xs).st ks (h.feeds ks xs).wt (h.feeds ks xs).many (all + n : Nat)) ∧ w.grownBy w' (some g) := by
  subst hn
  exact Add_any g A c xs h ks all w hr hxc hg ho h2 hall

theorem row_of_blk {w : World} {g : Nat} {t : TypeId} {xs : List UInt8} {ok : Nat → Prop} (h : Blk w g t (bts xs).toArray) (hl : xs.length ≤ 9223372036854775807) (ho : ok g) : RowV Kn.byte w ok (some ⟨g, 0, none⟩) xs :=
  RowV.of_bytes hl (fun _ => ho) fun j u hu => by rw [add_plain, h.cell, Nat.zero_add, List.getElem?_toArray]; exact hu

theorem wpList_build_eq {P : Program} {ops : Array Oper} {rest : List Oper} {o : Oper} {a : Act} {w : World} {Q : Exit → Act → World → Prop} (hg : o.guard = none) (t : TypeId) (parts : Array (Nat × Operand)) (cells : Array Value) (ho : o.op = .build t parts)
    (hf : P.built t (parts.map fun (i, x) => (i, a.eval x)).toList = some cells) (h : wpList P ops Q rest (a.put o.dst (.agg cells)) w) : wpList P ops Q (o :: rest) a w :=
  wpList_build hg t parts ho (by rw [hf]; rfl) (by rw [hf]; exact h)

set_option maxHeartbeats 400000 in
set_option maxRecDepth 100000 in
theorem constants_any (w : World) :
    Calls Tryz.prog 231 #[] w fun e w' => e = .returned (.agg (n32 kSha).toArray) ∧ Below w.heap.size w w' := by
  go_enter Tryz.func231, Tryz.ntmps231
  go_upto_region 1 with (fail)
  refine wp_region_lit ?_
  refine wpList_build_eq rfl 291 _ (n32 kSha).toArray rfl (by kernel_rfl) ?_
  refine wpList_store_row rfl 291 (.tmp 0) (.tmp 1) rfl w.heap.size (n32 kSha).toArray rfl rfl 291 _ (heap_alloc_new w _) (by kernel_rfl) rfl (n32_all _) ?_
  rw [World.setRow_alloc_new]
  go_wp2
  exact bodyPost_ret (results_cell_row rfl _ _ w.heap.size 291 _ (0, 0) _ rfl (heap_alloc_new w _) Tryz.underlying291 rfl arr64_size) rfl ⟨rfl, (Below.refl _ _).alloc (Nat.le_refl _) _⟩

set_option maxHeartbeats 400000 in
set_option maxRecDepth 100000 in
theorem New_any (w : World) :
    Calls Tryz.prog 227 #[] w fun e w' => ∃ g, e = .returned (.pointer (some ⟨g, 0, none⟩)) ∧ w.heap.size ≤ g ∧ Blk w' g 294 (hc hs0.st kSha hs0.wt hs0.many (0 : Nat)) ∧ Below w.heap.size w w' := by
  go_enter Tryz.func227, Tryz.ntmps227
  go_wp2_with fail
  refine (beginning_any _).mono ?_
  rintro e w1 ⟨rfl, hb1⟩
  go_wp2_with (go_at_call 231; refine (constants_any _).mono ?_; rintro e w2 ⟨rfl, hb2⟩)
  have hcells : List.foldl (fun (cs : Array Value) (x : Value × Nat) => cs.setIfInBounds (8 + x.snd) x.fst) (List.foldl (fun (cs : Array Value) (x : Value × Nat) => cs.setIfInBounds x.snd x.fst) Tryz.zeroCells294 (n32 hSha).zipIdx) (n32 kSha).zipIdx = hc hs0.st kSha hs0.wt hs0.many (0 : Nat) := by kernel_rfl
  rw [hcells]
  go_ret
  exact ⟨_, rfl, by have := hb1.size; have := hb2.size; omega, heap_alloc_new _ _, (below_next hb1 hb2).alloc (by have := hb1.size; have := hb2.size; omega) _⟩

theorem info_u32 : ∃ i, Tryz.prog.info? 98 = some i ∧ i.size = 1 := by
  obtain ⟨i, h1, _, h3, _⟩ := info_parts (show (Tryz.prog.info? 98).map (fun i => (i.zero, i.size, i.bytes)) = some (some (.int .u32 0), 1, 4) by kernel_rfl)
  exact ⟨i, h1, h3⟩
theorem run_index_n32 (l : List Int) (hl : l.length = 8) (k : Nat) (hk : k < 8) (W : World) : (Instr.index 289 (.agg (n32 l).toArray) (.int .i64 (k : Int))).run Tryz.prog W = .ok (.int .u32 (wd l k)) W := by
  obtain ⟨i, h1, h2⟩ := info_u32
  have hu := Tryz.underlying289
  have hk' : (k : Int) < 8 := by omega
  simp [Instr.index, asIntOf, run_underlying hu, sizeOf, typeInfo, h1, h2, hk', part]
  rw [if_pos hk, n32_get, List.getElem?_eq_getElem (by omega)]
  simp [wd, List.getElem?_eq_getElem (by omega : k < l.length)]

theorem info_hash : (Tryz.prog.info? 294).map (·.size) = some 138 := by kernel_rfl

set_option maxHeartbeats 1000000 in
set_option maxRecDepth 100000 in
theorem Sum_any (g : Nat) (h : HS) (all : Nat) (w : World) (hg : Blk w g 294 (hc h.st kSha h.wt h.many all)) (ho : h.Ok) (hrng : Rng h.st) (hall : all < 1152921504606846976) :
    Calls Tryz.prog 229 #[.pointer (some ⟨g, 0, none⟩)] w fun e w' => ∃ x, e = .returned x ∧ w'.ownsRow w.heap.size 5 1 x 32 (bts (sumOf h all)) ∧ Below w.heap.size w w' := by
  have hm := ho.many
  have h136 := (hg.cell 136).trans (hc_many ho.st kSha_length ho.wt)
  have h137 := (hg.cell 137).trans (hc_all ho.st kSha_length ho.wt)
  have hsz := hc_size (many := h.many) (all := (all : Int)) ho.st kSha_length ho.wt
  have hinfo := info_hash.trans (congrArg some hsz.symm)
  have HG := Lib.hid hg
  have HO := Lib.hid ho
  have HSZ := Lib.hid hsz
  have HI := Lib.hid hinfo
  have hgl := hg.lt
  have hmk : ∀ W : World, (Instr.makeSlice 33 (.int .i64 (1 + (119 - (h.many : Int)) % 64)) (.int .i64 (1 + (119 - (h.many : Int)) % 64))).run Tryz.prog W = .ok (.slice (some ⟨W.heap.size, 0, none⟩) (1 + (119 - h.many) % 64) (1 + (119 - h.many) % 64)) (W.alloc (.cells (bts (List.replicate (1 + (119 - h.many) % 64) 0)).toArray 5)) := by
    intro W
    have := run_make_bytes (1 + (119 - h.many) % 64) (by omega) W
    rw [show (1 + (119 - (h.many : Int)) % 64) = ((1 + (119 - h.many) % 64 : Nat) : Int) by omega]
    exact this
  clear hg ho hsz hinfo
  go_enter Tryz.func229, Tryz.ntmps229
  go_upto_region 3 with (first
    | (with_reducible change wpList _ _ _ ({ dst := some 10, op := Op.load 294 (Operand.tmp 9), type := _, pos := _, after := _, guard := _ } :: _) _ _
       go_must (refine wpList_load_row rfl 294 (.tmp 9) rfl g rfl 294 (hc h.st kSha h.wt h.many all) (0, 0) _ HG.out Tryz.underlying294 rfl HI.out ?_))
    | (with_reducible change wpList _ _ _ ({ dst := none, op := Op.store 294 (Operand.tmp 3) (Operand.tmp 10), type := _, pos := _, after := _, guard := _ } :: _) _ _
       go_must (refine wpList_store_row rfl 294 (.tmp 3) (.tmp 10) rfl w.heap.size (hc h.st kSha h.wt h.many all) rfl rfl 294 _ (Blk.new w _ _) HI.out (HSZ.out.symm ▸ rfl) (hc_one _ _ _ _ _) ?_
                rw [World.setRow_alloc_new])))
  have hml : (119 - h.many) % 64 < 64 := by omega
  generalize hm' : (119 - h.many) % 64 = m at *
  have HM := Lib.hid hm'
  clear hm' hmk
  generalize hwa : ((w.alloc (.cells (hc h.st kSha h.wt h.many all) 294)).alloc (.cells (bts (List.replicate (1 + m) 0)).toArray 5)) = wa
  have hBe : Blk wa w.heap.size 294 (hc h.st kSha h.wt h.many all) := by rw [← hwa]; exact (Blk.new w _ _).alloc _
  have hBp : Blk wa (w.heap.size + 1) 5 (bts (0 :: List.replicate m 0)).toArray := by
    rw [← hwa, Nat.add_comm 1 m, List.replicate_succ]
    exact heap_alloc2_new w _ _
  have hba : Below w.heap.size w wa := by rw [← hwa]; exact ((Below.refl _ _).alloc (Nat.le_refl _) _).alloc (by simp) _
  have hsa : wa.heap.size = w.heap.size + 2 := by rw [← hwa]; simp
  clear hwa h136
  have c0 : wa.cell? ⟨w.heap.size + 1, 0, none⟩ = some (.int .u8 0) := hBp.cell 0
  have f0 := hBp.frozen 0
  have h137a : wa.cell? ⟨g, 137, none⟩ = some (.int .u64 (all : Int)) := (hba.cell (p := ⟨g, 137, none⟩) hgl).trans h137
  have hBe1 : Blk (wa.setCell ⟨w.heap.size + 1, 0, none⟩ (.int .u8 128)) w.heap.size 294 (hc h.st kSha h.wt h.many all) := hBe.far (by simp) _
  have hBp1 : Blk (wa.setCell ⟨w.heap.size + 1, 0, none⟩ (.int .u8 128)) (w.heap.size + 1) 5 (bts (0x80 :: List.replicate m 0)).toArray := hBp.set_ 0 (.int .u8 128)
  have hb1 : Below w.heap.size w (wa.setCell ⟨w.heap.size + 1, 0, none⟩ (.int .u8 128)) := hba.setCell (by simp) _
  have HBE := Lib.hid hBe1
  have HBP := Lib.hid hBp1
  have HB1 := Lib.hid hb1
  have HSA := Lib.hid hsa
  clear hBe hBp hBe1 hBp1 hba hb1 hsa h137
  go_wp2_with fail
  refine (Add_n w.heap.size _ _ _ (0x80 :: List.replicate m 0) h kSha all _ (row_of_blk HBP.out (by simp; omega) ⟨HBP.out.lt, by omega⟩) (by simp; omega) (Nat.le_refl _) HBE.out HO.out kSha_length (by omega)).mono ?_
  rintro e w2 ⟨rfl, hB2, hg2⟩
  have hgw : g < wa.heap.size := by have := HSA.out; omega
  have h137b : w2.cell? ⟨g, 137, none⟩ = some (.int .u64 (all : Int)) := by
    rw [cell_of_same (hg2.block g (by simp [World.setCell]; exact hgw) (by simp; omega))]
    rw [World.cell?_setCell_other _ _ _ _ (by intro e; injection e; omega)]
    exact h137a
  have hb2 : Below w.heap.size w w2 := below_of_grown HB1.out hg2 HB1.out.size (Nat.le_refl _)
  have HB2 := Lib.hid hB2
  have HBB := Lib.hid hb2
  have HOO := Lib.hid (HO.out.feeds kSha (0x80 :: List.replicate m 0))
  have HRR := Lib.hid (Rng.feeds (ks := kSha) (0x80 :: List.replicate m 0) hrng)
  generalize hH2 : h.feeds kSha (0x80 :: List.replicate m 0) = H2 at *
  have HH2 := Lib.hid hH2
  clear hB2 hb2 hg2 h137a hH2 HB1 HBE HBP c0 f0
  go_wp2_with fail
  rw [show (8 * (all : Int)) = ((8 * all : Nat) : Int) by omega]
  refine (Big64_any (8 * all) _ (by omega)).mono ?_
  rintro e w3 ⟨x, rfl, hx, hb3⟩
  obtain ⟨hn8, Ax, cx, rfl, hxc, _, hxr⟩ := bytesV_of_own hx
  clear hn8
  rw [beB_length] at hxc ⊢
  have HXR := Lib.hid hxr
  have HB3 := Lib.hid hb3
  have hB3 := HB2.out.step hb3
  have HB3B := Lib.hid hB3
  clear hxr hb3 hx hB3
  clear h137b
  go_wp2_with fail
  refine (Add_n w.heap.size _ _ _ (beB (8 * all) 8) H2 kSha (all + (1 + m)) _ (HXR.out.mono ?_) (beB_length _ _) hxc HB3B.out HOO.out kSha_length (by omega)).mono ?_
  · rintro b ⟨hb, _⟩ hlt
    have := HB2.out.lt
    exact ⟨hlt, by omega⟩
  rintro e w4 ⟨rfl, hB4, hg4⟩
  have hb4 : Below w.heap.size w w4 := below_of_grown (below_next HBB.out HB3.out) hg4 (below_next HBB.out HB3.out).size (Nat.le_refl _)
  have HB4 := Lib.hid hB4
  have HBB4 := Lib.hid hb4
  have HOOO := Lib.hid (HOO.out.feeds kSha (beB (8 * all) 8))
  have HRRR := Lib.hid (Rng.feeds (ks := kSha) (beB (8 * all) 8) HRR.out)
  generalize hH3 : H2.feeds kSha (beB (8 * all) 8) = H3 at *
  have HH3 := Lib.hid hH3
  have h8 : (n32 H3.st).toArray.size = 8 := by simp [n32, HOOO.out.st]
  have H8i := Lib.hid (arr8_size.trans (congrArg some h8.symm))
  have HR8 := Lib.hid (range_state HB4.out HOOO.out.st)
  clear hB4 hb4 hg4 hH3 h8 HB2 HB3 HB3B HXR
  go_wp2_with (first
    | (with_reducible change wpList _ _ _ ({ dst := some 31, op := Op.load 289 (Operand.tmp 30), type := _, pos := _, after := _, guard := _ } :: _) _ _
       go_must (refine wpList_load_mid rfl 289 (.tmp 30) rfl w.heap.size 0 rfl (n32 H3.st) _ HR8.out Tryz.underlying289 rfl H8i.out ?_)))
  go_loopw [5, 7, 32] (fun v _ i wr => ∃ k : Nat, k ≤ 8 ∧ i = .int .i64 k ∧ wr.ownsRow w.heap.size 5 1 v (4 * k) (bts (flat32 (H3.st.take k))) ∧ Below w.heap.size w wr) (fun _ _ i _ => 8 - (intOf i).toNat)
  case atStart => exact ⟨0, by omega, rfl, World.ownsRow_nil _ _ _ _, HBB4.out⟩
  case round =>
    clear HR8 H8i HB4
    obtain ⟨k, hk, rfl, hown, hb⟩ := hrel
    have HOWN := Lib.hid hown
    have HB := Lib.hid hb
    clear hown hb
    by_cases hlt : k < 8
    · have hd : decide ((k : Int) < 8) = true := by simp; omega
      have hidx := run_index_n32 H3.st HOOO.out.st k hlt
      have hr1 := (HRRR.out k).1
      have hr2 := (HRRR.out k).2
      go_wp2_with fail
      rw [show wd H3.st k = (((wd H3.st k).toNat : Nat) : Int) by omega]
      refine (Big32_any (wd H3.st k).toNat _ (by omega)).mono ?_
      rintro e w5 ⟨x, rfl, hx, hb5⟩
      obtain ⟨hn4, Ax, cx, rfl, hxc, _, hxr⟩ := bytesV_of_own hx
      clear hn4
      rw [beB_length] at hxc ⊢
      have HXC := Lib.hid (row_bytes_cells hxr)
      have HXA : Hid (0 < 4 → ∃ a, Ax = some a) := fun _ => by
        obtain ⟨ad, e, _⟩ := hxr.2 (by rw [beB_length]; omega)
        exact ⟨ad, e⟩
      have HB5 := Lib.hid hb5
      have HO5 := Lib.hid (HOWN.out.kept (grown_of_below hb5 none) (by cases u5.ownBlock <;> simp))
      clear hxr hb5 hx hidx hr1 hr2
      go_wp2_with (first
        | (at_builtin
           go_must (refine wpList_append_acc _ rfl (.tmp 35) (.tmp 37) 33 rfl w.heap.size 5 (.int .u8 0) 1 1 Tryz.underlying33 Tryz.info5 rfl (by omega) u5 (4 * k) _ rfl (.inl HO5.out) Ax 4 cx _ rfl (by rw [bts_length, beB_length]) HXA.out HXC.out (bts_one _) (by simp only [maxLen]; omega) (by omega) (below_next HB.out HB5.out).size ?_)
           rintro v' w6 _ _ hg6 _ ho6))
      go_roundw
      case measure => simp [intOf]; omega
      case rel =>
        refine ⟨k + 1, by omega, by go_num, ?_, ?_⟩
        · have h9 := ho6 HO5.out
          rw [← bts_append, ← flat32_snoc] at h9
          rw [List.take_succ_eq_append_getElem (by rw [HOOO.out.st]; exact hlt)]
          have : wd H3.st k = H3.st[k]'(by rw [HOOO.out.st]; exact hlt) := by simp [wd, List.getElem?_eq_getElem (show k < H3.st.length by rw [HOOO.out.st]; exact hlt)]
          rw [← this, show 4 * (k + 1) = 4 * k + 4 by omega]
          exact h9
        · exact (below_next HB.out HB5.out).grown hg6 (below_next HB.out HB5.out).size (fun q hq => (HOWN.out.lt q hq).1)
    · obtain rfl : k = 8 := by omega
      have hd : decide (((8 : Nat) : Int) < 8) = false := by simp
      rw [show ((8 : Nat) : Int) = 8 from rfl]
      go_wp2_with fail
      go_ret
      refine ⟨_, rfl, ?_, HB.out⟩
      have h9 := HOWN.out
      rw [List.take_of_length_le (by rw [HOOO.out.st]; omega)] at h9
      unfold sumOf shaPad
      rw [HM.out, HH2.out, Nat.mod_eq_of_lt (by omega), HH3.out]
      exact h9

set_option maxHeartbeats 400000 in
/-- sha.Of: the digest -/
theorem Of_any (A : Option Addr) (c : Nat) (xs : List UInt8) (w : World) (hr : RowV Kn.byte w (old w) A xs) (hxc : xs.length ≤ c) (hx : xs.length < 1152921504606846976) :
    Calls Tryz.prog 226 #[.slice A xs.length c] w fun e w' => ∃ x, e = .returned x ∧ w'.ownsRow w.heap.size 5 1 x 32 (bts (shaOf xs)) ∧ Below w.heap.size w w' := by
  go_enter Tryz.func226, Tryz.ntmps226
  go_wp2_with fail
  refine (New_any _).mono ?_
  rintro e w1 ⟨g, rfl, hg, hB, hb⟩
  have HB := Lib.hid hB
  have HBB := Lib.hid hb
  clear hB hb
  go_wp2_with fail
  refine (Add_any g A c xs hs0 kSha 0 _ (hr.move fun b ho hlt => ⟨⟨Nat.lt_of_lt_of_le hlt HBB.out.size, by omega⟩, HBB.out.block b hlt⟩) hxc HB.out hs0_ok kSha_length (by omega)).mono ?_
  rintro e w2 ⟨rfl, hB2, hg2⟩
  have hb2 : Below w.heap.size w w2 := below_of_grown HBB.out hg2 HBB.out.size hg
  rw [Nat.zero_add] at hB2
  have HB2 := Lib.hid hB2
  have HBB2 := Lib.hid hb2
  clear hB2 hg2 hb2
  go_wp2_with fail
  refine (Sum_any g (hs0.feeds kSha xs) xs.length _ HB2.out (hs0_ok.feeds _ _) (Rng.feeds _ Rng_hSha) hx).mono ?_
  rintro e w3 ⟨x, rfl, hox, hb3⟩
  go_wp2_with fail
  go_ret
  exact ⟨x, rfl, ⟨hox.1, hox.2.imp id (fun ⟨a, b, d, e1, e2, e3⟩ => ⟨a, b, d, e1, Nat.le_trans HBB2.out.size e2, e3⟩)⟩, below_next HBB2.out hb3⟩
end Go.Proofs.YtkenmpggblefiaaGreatDoor
