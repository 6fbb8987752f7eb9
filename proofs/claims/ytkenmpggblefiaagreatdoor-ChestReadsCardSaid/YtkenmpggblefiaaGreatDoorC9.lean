/- The walk of the program's Bytes. -/
import Derived.Test.YtkenmpggblefiaaGreatDoorC8
namespace Go.Proofs.YtkenmpggblefiaaGreatDoor
open Go.RowKit
attribute [local go_sem ↓] Go.wp_at_zero Go.wp_at_succ

/-- the program's crypt: v its value, b its map's block -/
def CrIs (w : World) (v : Value) (b : Nat) : Cr → Prop
  | .real => v = .iface 86 (.agg #[])
  | .book ts => ∃ p vb, v = .iface 69 (.pointer (some ⟨p, 0, none⟩)) ∧ BookIs w p b vb ts
theorem CrIs.lt {w : World} {v : Value} {b : Nat} {ts : List (List UInt8)} (h : CrIs w v b (.book ts)) : b < w.heap.size := by
  obtain ⟨p, vb, _, h⟩ := h
  exact h.map.lt
theorem CrIs.chg {F : Nat → Prop} {w w' : World} {v : Value} {b : Nat} {s : Cr} (h : CrIs w v b s) (k : Chg F w w') (hF : ∀ i, i < w.heap.size → ¬ F i) : CrIs w' v b s := by
  rcases s with _ | ts
  · exact h
  · obtain ⟨p, vb, rfl, h⟩ := h
    exact ⟨p, vb, rfl, h.head.chg k (hF _ h.head.lt), h.map.chg k (hF _ h.map.lt)⟩
theorem CrIs.below {w w' : World} {v : Value} {b : Nat} {s : Cr} (h : CrIs w v b s) (k : Below w.heap.size w w') : CrIs w' v b s := h.chg (Chg.of_below k (fun _ => False)) (fun _ _ h => h)
theorem CrIs.keep {F : Nat → Prop} {w0 w w' : World} {v : Value} {b : Nat} {s0 s : Cr} (h0 : CrIs w0 v b s0) (h : CrIs w v b s) (k : Chg F w w') (hF : ∀ i, i < w0.heap.size → ¬ F i) : CrIs w' v b s := by
  rcases s with _ | ts
  · exact h
  · obtain ⟨p, vb, rfl, h⟩ := h
    rcases s0 with _ | ts0
    · cases h0
    · obtain ⟨p', vb', e, h'⟩ := h0
      cases e
      exact ⟨p, vb, rfl, h.head.chg k (hF _ h'.head.lt), h.map.chg k (hF _ h'.map.lt)⟩
/-- the block that a Sum turns -/
def Cr.foot (b : Nat) : Cr → Nat → Prop
  | .real, _ => False
  | .book _, i => i = b
theorem CrIs.foot_lt {w : World} {v : Value} {b : Nat} {s : Cr} (h : CrIs w v b s) (i : Nat) (hi : s.foot b i) : i < w.heap.size := by
  rcases s with _ | ts
  · exact hi.elim
  · have hi : i = b := hi
    rw [hi]
    exact h.lt
theorem own_rebase {w : World} {b B : Nat} {e : TypeId} {size n : Nat} {v : Value} {xs : List Value} (h : w.ownsRow b e size v n xs) (hB : ∀ g, v.ownBlock = some g → B ≤ g) : w.ownsRow B e size v n xs :=
  ⟨h.1, h.2.imp id fun ⟨g, c, d, e1, e2, e3⟩ => ⟨g, c, d, e1, hB g (by rw [e1]; rfl), e3⟩⟩
/-- what a Sum of the program's crypt leaves -/
def CrPost (v : Value) (b : Nat) (s : Cr) (xs : List UInt8) (w : World) (e : Ending) (w' : World) : Prop :=
  ∃ x, e = .returned x ∧ w'.ownsRow w.heap.size 5 1 x 32 (bts (s.dig xs)) ∧ CrIs w' v b (s.next xs) ∧ Chg (s.foot b) w w'
/-- its Sum: function F at r0 -/
structure CrFn (T : TypeId) (u : Value) (F : FuncId) (r0 : Value) : Prop where
  nil : ∀ w, (nilAhead 397 T u "Sum").run Tryz.prog w = .ok (some false) w
  meth : ∀ w, (method 397 T u "Sum").run Tryz.prog w = .ok (F, r0) w
  enter : ∀ args w, (callFunc F args).run Tryz.prog w = .ok (.enter F args) w
  sum : ∀ (A : Option Addr) (c n : Nat) (xs : List UInt8) (b : Nat) (s : Cr) (w : World), HasB w A n xs → n ≤ c → n < 1000000000000 → s.many < 1000000000000 → CrIs w (.iface T u) b s → Calls Tryz.prog F #[r0, .slice A n c] w fun e w' => CrPost (.iface T u) b s xs w e w'
theorem nil_actual (w : World) : (nilAhead 397 86 (.agg #[]) "Sum").run Tryz.prog w = .ok (some false) w := by kernel_rfl
theorem meth_actual (w : World) : (method 397 86 (.agg #[]) "Sum").run Tryz.prog w = .ok (225, .agg #[]) w := by kernel_rfl
theorem enter_actual (args : Array Value) (w : World) : (callFunc 225 args).run Tryz.prog w = .ok (.enter 225 args) w := by kernel_rfl
theorem enter_book (args : Array Value) (w : World) : (callFunc 221 args).run Tryz.prog w = .ok (.enter 221 args) w := by kernel_rfl
theorem nil_book (a : Addr) (w : World) : (nilAhead 397 69 (.pointer (some a)) "Sum").run Tryz.prog w = .ok (some false) w := by kernel_rfl
theorem meth_book (a : Addr) (w : World) : (method 397 69 (.pointer (some a)) "Sum").run Tryz.prog w = .ok (221, .pointer (some a)) w := by kernel_rfl
theorem CrIs.fn {w : World} {v : Value} {b : Nat} {s : Cr} (h : CrIs w v b s) : ∃ T u F r0, v = .iface T u ∧ CrFn T u F r0 := by
  rcases s with _ | ts
  · cases h
    refine ⟨_, _, _, _, rfl, nil_actual, meth_actual, enter_actual, ?_⟩
    intro A c n xs b s w hx hc hn hm hs
    rcases s with _ | ts
    · refine (actualSum_any A c n xs w hx hc (by omega)).mono ?_
      rintro e w' ⟨x, rfl, ho, hb⟩
      rw [shaOf_length] at ho
      exact ⟨x, rfl, ho, rfl, Chg.of_below hb _⟩
    · obtain ⟨p, vb, e, _⟩ := hs
      cases e
  · obtain ⟨p, vb, rfl, _⟩ := h
    refine ⟨_, _, _, _, rfl, nil_book _, meth_book _, enter_book, ?_⟩
    intro A c n xs b s w hx hc hn hm hs
    rcases s with _ | ts
    · cases hs
    · obtain ⟨p', vb', e, hB⟩ := hs
      cases e
      refine (bookSum_any p b vb' ts A c n xs w hx hB (by omega) (by simp only [Cr.many] at hm; omega)).mono ?_
      rintro e w' ⟨x, rfl, ho, hb, hg⟩
      exact ⟨x, rfl, ho, ⟨p, vb', rfl, hb⟩, (Chg.of_grown hg).mono fun i _ hi => Option.some.inj hi⟩
/-- what the program's Bytes leaves -/
def BytesPost (v : Value) (b : Nat) (s : Cr) (l : List Chest) (w : World) (e : Ending) (w' : World) : Prop :=
  if bigL l = true then e = .returned (.tuple #[.slice none 0 0, .int .i64 3]) ∧ Below w.heap.size w w'
  else ∃ x, e = .returned (.tuple #[x, .int .i64 0]) ∧ w'.ownsRow w.heap.size 5 1 x (wrOf s l).length (bts (wrOf s l)) ∧ CrIs w' v b (s.next (bodyOf l)) ∧ Chg (s.foot b) w w'

set_option maxHeartbeats 1000000 in
set_option maxRecDepth 100000 in
theorem Bytes_any (v : Value) (b : Nat) (s : Cr) (hs : s.many < 1000000000) (A : Option Addr) (c n : Nat) (l : List Chest) (w : World) (h : RowV kChest w (old w) A l) (hn : l.length = n) (hT : tot l < 100000) (hv : CrIs w v b s) :
    Calls Tryz.prog 8 #[v, .slice A n c] w fun e w' => BytesPost v b s l w e w' := by
  obtain ⟨T, u, F, r0, rfl, hfn⟩ := hv.fn
  have hnil := hfn.nil
  have hmeth := hfn.meth
  have hent := hfn.enter
  have HV := Lib.hid hv
  have HF := Lib.hid hfn
  clear hv hfn
  have hl := h.1
  rw [hn] at hl
  have H := Lib.hid h
  have HN := Lib.hid hn
  clear h hn
  have hmf : ∀ (fn : Fn) (first cap : Array Value) (w : World), (Instr.makeFunc fn first cap).run Tryz.prog w = .ok (.func fn first cap) w := fun _ _ _ _ => rfl
  have hcb : ∀ W : World, (convert 33 33 (.slice (some ⟨W.heap.size, 0, none⟩) 4 4)).run Tryz.prog (W.alloc (.cells #[.int .u8 79, .int .u8 67, .int .u8 72, .int .u8 49] 5)) = .ok (.slice (some ⟨W.heap.size, 0, none⟩) 4 4) (W.alloc (.cells #[.int .u8 79, .int .u8 67, .int .u8 72, .int .u8 49] 5 (4, 5))) :=
    fun W => Lib.run_convert_bytes_const W 33 5 #[.int .u8 79, .int .u8 67, .int .u8 72, .int .u8 49] 4 4 Tryz.underlying33 Tryz.underlying5
  by_cases hbig : 1024 < n
  · have hd : decide (1024 < (n : Int)) = true := by simp; omega
    have hB : bigL l = true := by
      unfold bigL
      rw [HN.out]
      simp [hbig]
    have HB := Lib.hid hB
    clear hB
    go_enter Tryz.func8, Tryz.ntmps8
    go_wp2_with fail
    go_ret2
    unfold BytesPost
    rw [if_pos HB.out]
    exact ⟨rfl, Below.refl _ _⟩
  · have hd : decide (1024 < (n : Int)) = false := by simp; omega
    by_cases hany : (l.any fun x => decide (64 < x.layers.length)) = true
    · have hB : bigL l = true := by
        unfold bigL
        rw [hany]
        simp
      have HB := Lib.hid hB
      clear hB
      go_enter Tryz.func8, Tryz.ntmps8
      go_wp2_with fail
      refine (contains_any A c n l w H.out HN.out).mono ?_
      rintro e w1 ⟨rfl, hb1⟩
      rw [hany]
      go_wp2_with fail
      go_ret2
      unfold BytesPost
      rw [if_pos HB.out]
      exact ⟨rfl, hb1⟩
    · have hany2 : (l.any fun x => decide (64 < x.layers.length)) = false := by simpa using hany
      have hB : ¬ bigL l = true := by
        unfold bigL
        rw [hany2, HN.out]
        simp
        omega
      have HB := Lib.hid hB
      clear hB
      go_enter Tryz.func8, Tryz.ntmps8
      go_wp2_with fail
      refine (contains_any A c n l w H.out HN.out).mono ?_
      rintro e w1 ⟨rfl, hb1⟩
      rw [hany2]
      go_wp2_with fail
      obtain ⟨W, hW⟩ : ∃ W, W = ((w1.alloc (.cells #[.int .u8 79, .int .u8 67, .int .u8 72, .int .u8 49] 5 (4, 5))).alloc (.cells #[.slice (some ⟨w1.heap.size, 0, none⟩) 4 4] 54)) := ⟨_, rfl⟩
      rw [← hW]
      have hbW : Below w1.heap.size w1 W := by rw [hW]; exact ((Below.refl _ _).alloc (Nat.le_refl _) _).alloc (by simp) _
      have hacc : WrAcc (fun i => w1.heap.size ≤ i) W (w1.heap.size + 1) (.slice (some ⟨w1.heap.size, 0, none⟩) 4 4) [79, 67, 72, 49] := by
        refine ⟨by rw [hW]; exact heap_alloc2_new w1 _ _, .inr ⟨rfl, by simp [maxLen], bts_one _, _, rfl, Nat.zero_le _, ?_⟩, by omega, ?_, ?_⟩
        · intro j u hu
          rw [hW]
          exact (cell_of_same (Below.heap_alloc _ _ _ (by rw [block_of_add]; simp))).trans (World.news_of_block (heap_alloc_new w1 _) j u hu)
        · intro g hg
          simp [Value.ownBlock] at hg
          omega
        · simp [Value.ownBlock]
      have HACC := Lib.hid hacc
      have HBW := Lib.hid hbW
      have HB1 := Lib.hid hb1
      clear hW hacc hbW hb1
      have hbw : Below w.heap.size w W := below_next HB1.out HBW.out
      have hrow : RowV kChest W (fun i => i < w.heap.size) A l := H.out.move fun i hi _ => ⟨hi, hbw.block i hi⟩
      have HV1 := Lib.hid (HV.out.below hbw)
      have HBw := Lib.hid hbw
      have hlen4 : ([79, 67, 72, 49] ++ beB n 4 ++ chestsOf l) = bodyOf l := by unfold bodyOf; rw [HN.out]
      refine (listChest_any _ (fun i => i < w.heap.size) _ _ _ 4 A c n l W HACC.out rfl (by omega) hrow HN.out (fun i h1 h2 => by have := HB1.out.size; have : w1.heap.size ≤ i := h2; omega) hT).mono ?_
      rw [hlen4]
      rintro e w2 ⟨rfl, G2, ⟨v2, hd2, ho2, hp2, hv2⟩, hc2, hg2⟩
      clear hrow hlen4 hbw
      obtain ⟨m, hm⟩ : ∃ m, (bodyOf l).length = m := ⟨_, rfl⟩
      rw [hm] at ho2
      have hmb : m < 2000000 := by
        have := bodyOf_le l
        omega
      obtain ⟨A2, c2, rfl⟩ := own_form ho2
      have hG2 : ∀ i, G2 i → w.heap.size ≤ i := by
        intro i hi
        have h8 := HB1.out.size
        have h7 := HBW.out.size
        rcases hg2 i hi with h | h
        · have : w1.heap.size ≤ i := h
          omega
        · omega
      have hCW : Below w.heap.size w w2 := by
        have h9 := hc2.below (B := w.heap.size) HBw.out.size (fun i hi h => by
          have h8 := HB1.out.size
          have : w1.heap.size ≤ i := h
          omega)
        exact HBw.out.trans h9
      have hown2 := own_rebase ho2 (fun g hg => hG2 g (hv2 g hg))
      have hps : w.heap.size ≤ w1.heap.size + 1 := hG2 _ hp2
      have hk2 : w2.cell? ⟨w1.heap.size + 1, 0, none⟩ = some (.slice A2 m c2) := hd2.cell 0
      obtain ⟨A2', c2', e2, hO2⟩ := ownB_of hown2
      cases e2
      have HV2 := Lib.hid (HV.out.below hCW)
      have HO2 := Lib.hid hO2
      have HD2 := Lib.hid hd2
      have HCW := Lib.hid hCW
      have HM := Lib.hid hm
      clear hCW hown2 hO2 hG2 hd2 ho2 hp2 hv2 hc2 hg2 hm
      go_upto_region 5 with fail
      go_region_held3 (fun W => W.cell? ⟨w1.heap.size + 1, 0, none⟩ = some (.slice A2 m c2)) (first | exact hk2 | exact hk3 | exact hk4) (first
        | (with_reducible change Calls _ F #[r0, _] _ _
           refine (HF.out.sum A2 c2 m (bodyOf l) b s _ (HO2.out.has.kept ((Below.refl _ _).drew)) HO2.out.le (by omega) (by omega) (HV2.out.below ((Below.refl _ _).drew))).mono ?_
           rintro e w3 ⟨x, rfl, hx, hv3, hc3⟩
           obtain ⟨A3, c3, rfl, h3⟩ := ownB_of hx
           have hc3' : Chg (s.foot b) w2 w3 := ((Chg.of_below ((Below.refl w2.heap.size w2).drew) (s.foot b))).trans hc3 (fun _ _ h => h)
           have hpf : ¬ s.foot b (w1.heap.size + 1) := fun h => by have := HV.out.foot_lt _ h; omega
           have hd3 := HD2.out.chg hc3' hpf
           have hk3 : w3.cell? ⟨w1.heap.size + 1, 0, none⟩ = some (.slice A2 m c2) := hd3.cell 0
           have HX3 := Lib.hid h3
           have HV3 := Lib.hid hv3
           have HC3 := Lib.hid hc3'
           have HD3 := Lib.hid hd3
           have HO3 := Lib.hid (own_chg_ge HO2.out.own hc3' (fun i h => HV.out.foot_lt i h))
           have hsz3 : w.heap.size ≤ w3.heap.size := Nat.le_trans HCW.out.size hc3'.size
           clear hx h3 hv3 hc3 hc3' hd3 hpf)
        | (refine step_cat (w0 := w3) (by rfl) (.tmp 26) (.tmp 35) 33 (by rfl) w.heap.size Tryz.underlying33 Tryz.info5 HO3.out (by rfl) (Below.refl _ _) c3 (by rfl) HX3.out.has (by omega) hsz3 ?_
           intro v4 w4 hown4 hb4 hg4 hat4
           have hk4 : w4.cell? ⟨w1.heap.size + 1, 0, none⟩ = some (.slice A2 m c2) := (Blk.grown HD3.out hg4 (fun e => own_blk_ne HO3.out HD3.out (by decide) e.symm)).cell 0)
        | fail)
      go_wp2_with fail
      go_ret2
      have hC4 : Chg (s.foot b) w w4 := (((Chg.of_below HCW.out (s.foot b))).trans HC3.out (fun _ _ h => h)).trans (Chg.of_grown hg4) (fun i hi e => by
        have := (HO3.out.lt i e.symm).1
        omega)
      unfold BytesPost
      rw [if_neg HB.out]
      refine ⟨_, rfl, ?_, ?_, hC4⟩
      · have e1 : (wrOf s l).length = m + 32 := by simp [wrOf, Cr.dig_length, HM.out]
        rw [e1]
        exact hown4
      · refine HV.out.keep HV3.out (Chg.of_grown hg4) (fun i hi e => ?_)
        have := (HO3.out.lt i e.symm).1
        omega
end Go.Proofs.YtkenmpggblefiaaGreatDoor
