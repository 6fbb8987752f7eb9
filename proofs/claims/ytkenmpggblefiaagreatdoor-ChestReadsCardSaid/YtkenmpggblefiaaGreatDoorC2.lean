/- The bytes of chests, and the walks of the reference's writing. -/
import Derived.Test.YtkenmpggblefiaaGreatDoorC1
import Derived.Lib.SmallJoins
import Derived.Deep.CutRange
namespace Go.Proofs.YtkenmpggblefiaaGreatDoor
open Go.RowKit
attribute [local go_sem ↓] Go.wp_at_zero Go.wp_at_succ

/-! ### plain -/
def rowOf (xs : List UInt8) : List UInt8 := beB xs.length 4 ++ xs
def rowsOf (ls : List (List UInt8)) : List UInt8 := (ls.map rowOf).flatten
def chestOf (x : Chest) : List UInt8 := rowOf x.tag ++ rowOf x.text ++ beB x.layers.length 4 ++ rowsOf x.layers
def chestsOf (l : List Chest) : List UInt8 := (l.map chestOf).flatten
def bodyOf (l : List Chest) : List UInt8 := [79, 67, 72, 49] ++ beB l.length 4 ++ chestsOf l
theorem rowOf_length (xs : List UInt8) : (rowOf xs).length = 4 + xs.length := by simp [rowOf, beB_length]
theorem rowsOf_snoc (ls : List (List UInt8)) (t : List UInt8) : rowsOf (ls ++ [t]) = rowsOf ls ++ rowOf t := by simp [rowsOf]
theorem chestsOf_snoc (l : List Chest) (x : Chest) : chestsOf (l ++ [x]) = chestsOf l ++ chestOf x := by simp [chestsOf]
theorem rowsOf_le : ∀ ls : List (List UInt8), (rowsOf ls).length ≤ 4 * totL ls
  | [] => by simp [rowsOf]
  | t :: ls => by
    have := rowsOf_le ls
    simp [rowsOf, totL, rowOf_length] at this ⊢
    omega
theorem chestOf_le (x : Chest) : (chestOf x).length ≤ 12 * (1 + x.tag.length + x.text.length + totL x.layers) := by
  have := rowsOf_le x.layers
  simp [chestOf, rowOf_length, beB_length]
  omega
theorem chestsOf_le : ∀ l : List Chest, (chestsOf l).length ≤ 12 * tot l
  | [] => by simp [chestsOf]
  | x :: l => by
    have h1 := chestsOf_le l
    have h2 := chestOf_le x
    simp [chestsOf, tot] at h1 h2 ⊢
    omega
theorem tot_len : ∀ l : List Chest, l.length ≤ tot l
  | [] => by simp
  | x :: l => by
    have := tot_len l
    simp [tot] at this ⊢
    omega

/-! ### memory -/
theorem has_bytesWorld (w : World) (xs : List UInt8) (n : Nat) (hn : xs.length = n) (hx : xs.length ≤ maxLen) : HasB (Lib.bytesWorld w 5 (bs xs)) (some ⟨w.heap.size, 0, none⟩) n xs := by
  refine ⟨hn, RowV.of_bytes (by simp only [maxLen] at hx; omega) (fun _ => ?_) ?_⟩
  · show w.heap.size < _
    rw [Lib.bytesWorld_size]
    omega
  · intro j u hu
    rw [bts_get] at hu
    have hj : j < xs.length := by
      rcases Nat.lt_or_ge j xs.length with h | h
      · exact h
      · rw [List.getElem?_eq_none h] at hu; cases hu
    rw [add_plain, Nat.zero_add, Lib.bytesWorld_cell _ _ _ j (by rw [bs_size]; exact hj)]
    rw [List.getElem?_eq_getElem hj] at hu
    rw [← hu]
    simp [bs, hj]

theorem cellB {w w' : World} {a : Addr} {v : Value} (h : w.cell? a = some v) (hb : Below w.heap.size w w') : w'.cell? a = some v := (cell_of_same (hb.block _ (lt_of_cell h))).trans h
theorem below_conv (w : World) (e : TypeId) (s : ByteArray) : Below w.heap.size w (Lib.bytesWorld w.drew e s) :=
  ((Below.refl w.heap.size w).drew).trans (Go.Joins.below_bytesWorld w.heap.size w.drew e s (Nat.le_refl _))
theorem conv_step {w w' : World} {e : TypeId} {s : ByteArray} (h : Below (Lib.bytesWorld w.drew e s).heap.size (Lib.bytesWorld w.drew e s) w') : Below w.heap.size w w' :=
  below_next (below_conv w e s) h
/-- append(row, bytes...), the row being full, a block of its own -/
theorem wpList_cat_full {P : Program} {W w0 : World} {ops : Array Oper} {rest : List Oper} {o : Oper} {a : Act} {Q : Exit → Act → World → Prop} (hgd : o.guard = none) (s x : Operand) (t : TypeId)
    (ho : o.op = .call { callee := .builtin .append, args := #[s, x], argTypes := #[t, t] })
    (base : Nat) (ht : P.underlying t = some (.slice 5)) (hinfo : (P.info? 5).map (fun i => (i.zero, i.size, i.bytes)) = some (some (.int .u8 0), 1, 1))
    (ad : Addr) (n : Nat) (ys : List UInt8) (hl : ys.length = n) (hv : ∀ j u, (bts ys)[j]? = some u → W.cell? (ad.add j) = some u) (hs : a.eval s = .slice (some ad) n n) (hbk : base ≤ ad.block) (hb : Below base w0 W)
    {A : Option Addr} {m : Nat} (c : Nat) {xs : List UInt8} (hx : a.eval x = .slice A m c) (hh : HasB W A m xs) (hm : 0 < m)
    (h63 : n + m ≤ 140737488355328) (hbase : base ≤ W.heap.size)
    (h : ∀ v' w', w'.ownsRow base 5 1 v' (n + m) (bts (ys ++ xs)) → Below base w0 w' → wpList P ops Q rest (a.put o.dst v') w') :
    wpList P ops Q (o :: rest) a W := by
  refine wpList_append_acc W hgd s x t ho base 5 (.int .u8 0) 1 1 ht hinfo rfl (by omega) (.slice (some ad) n n) n (bts ys) hs (.inr ⟨by rw [bts_length, hl, Nat.mul_one], by simp only [maxLen]; omega, bts_one _, ad, rfl, hbk, hv⟩) A m c _ hx hh.blen hh.some_ hh.cells (bts_one _) (by simp only [maxLen]; omega) (by omega) hbase ?_
  intro v' w' _ h2 hg _ _
  have h1 := h2 hm
  rw [← bts_append] at h1
  refine h v' w' h1 (hb.grown hg hbase (fun k hk => ?_))
  unfold Value.ownBlock at hk
  cases hk
  exact hbk

set_option maxHeartbeats 400000 in
theorem rrow_any (A : Option Addr) (c n : Nat) (xs : List UInt8) (w : World) (h : HasB w A n xs) (hx : n < 1000000000000) :
    Calls Tryz.prog 42 #[.slice A n c] w fun e w' => NewB w w' e (rowOf xs) := by
  have H := Lib.hid h
  have HL := Lib.hid h.len
  clear h
  go_enter Tryz.func42, Tryz.ntmps42
  go_wp2_with fail
  refine (Little_new n 4 _ (by omega) (by omega)).mono ?_
  rintro e w4 ⟨A4, c4, rfl, h4, hb4⟩
  have HO4 := Lib.hid h4
  have HB4 := Lib.hid hb4
  clear h4 hb4
  go_wp2_with fail
  refine (Back_new A4 c4 4 _ _ HO4.out.has (by omega)).mono ?_
  rintro e w5 ⟨A5, c5, rfl, h5, hb5⟩
  have HB5 := Lib.hid (below_next HB4.out hb5)
  have HO5 := Lib.hid (show w5.ownsRow w.heap.size 5 1 (.slice A5 4 c5) 4 (bts (leB n 4).reverse) from ⟨h5.own.1, h5.own.2.imp id (fun ⟨a, b, d, e1, e2, e3⟩ => ⟨a, b, d, e1, Nat.le_trans HB4.out.size e2, e3⟩)⟩)
  clear h5 hb5
  go_wp2_with (with_reducible change wpList _ _ _ ({ dst := some 9, op := _, type := _, pos := _, after := _, guard := _ } :: _) _ _; go_must (refine wpList_cat rfl (.tmp 7) (.tmp 8) 33 rfl w.heap.size Tryz.underlying33 Tryz.info5 (HO5.out) rfl (HB5.out) c rfl (H.out.kept HB5.out) (by omega) (HB5.out).size ?_)
               rintro v6 w6 hown6 hb6 _ _)
  go_ret
  refine ⟨_, rfl, ?_, hb6⟩
  rw [rowOf_length, HL.out]
  rw [leB_reverse] at hown6
  unfold rowOf
  rw [HL.out]
  exact hown6

theorem chestOf_get {l : List Chest} {k : Nat} {x : Chest} (h : l[k]? = some x) : chestsOf (l.take (k + 1)) = chestsOf (l.take k) ++ chestOf x := by
  rw [take_snoc h, chestsOf_snoc]

set_option maxHeartbeats 1000000 in
set_option maxRecDepth 100000 in
theorem rBody_any (A : Option Addr) (c n : Nat) (l : List Chest) (w : World) (h : RowV kChest w (old w) A l) (hn : l.length = n) (hT : tot l < 100000) :
    Calls Tryz.prog 22 #[.slice A n c] w fun e w' => NewB w w' e (bodyOf l) := by
  have H := Lib.hid h
  have HN := Lib.hid hn
  have hl := h.1
  have htl := tot_len l
  rw [hn] at hl htl
  clear h hn
  have hcb : ∀ W : World, (convert 33 33 (.slice (some ⟨W.heap.size, 0, none⟩) 4 4)).run Tryz.prog (W.alloc (.cells #[.int .u8 79, .int .u8 67, .int .u8 72, .int .u8 49] 5)) = .ok (.slice (some ⟨W.heap.size, 0, none⟩) 4 4) (W.alloc (.cells #[.int .u8 79, .int .u8 67, .int .u8 72, .int .u8 49] 5 (4, 5))) :=
    fun W => Lib.run_convert_bytes_const W 33 5 #[.int .u8 79, .int .u8 67, .int .u8 72, .int .u8 49] 4 4 Tryz.underlying33 Tryz.underlying5
  go_enter Tryz.func22, Tryz.ntmps22
  go_wp2_with fail
  refine (Little_new n 4 _ (by omega) (by omega)).mono ?_
  rintro e w4 ⟨A4, c4, rfl, h4, hb4⟩
  have HO4 := Lib.hid h4
  have HB4 := Lib.hid (below_step (below_new w _) (by simp) hb4)
  have HC4 := Lib.hid hb4
  clear h4 hb4
  go_wp2_with fail
  refine (Back_new A4 c4 4 _ _ HO4.out.has (by omega)).mono ?_
  rintro e w5 ⟨A5, c5, rfl, h5, hb5⟩
  rw [leB_reverse] at h5
  have HB5 := Lib.hid (below_step HB4.out HB4.out.size hb5)
  have HC5 := Lib.hid (below_next HC4.out hb5)
  have HO5 := Lib.hid h5
  clear h5 hb5 hcb
  go_wp2_with (first
    | (with_reducible change wpList _ _ _ ({ dst := some 13, op := _, type := _, pos := _, after := _, guard := _ } :: _) _ _; go_must (refine wpList_cat_full (w0 := w) rfl (.tmp 7) (.tmp 12) 33 rfl w.heap.size Tryz.underlying33 Tryz.info5 ⟨w.heap.size, 0, none⟩ 4 [79, 67, 72, 49] rfl ?_ rfl (Nat.le_refl _) HB5.out c5 rfl HO5.out.has (by omega) (by omega) HB5.out.size ?_)
       · intro j u hu
         have hj : (w.alloc (.cells #[.int .u8 79, .int .u8 67, .int .u8 72, .int .u8 49] 5 (4, 5))).cell? ((⟨w.heap.size, 0, none⟩ : Addr).add j) = some u := World.news_of_block (heap_alloc_new w _) j u hu
         exact (cell_of_same (HC5.out.block _ (by rw [block_of_add]; simp))).trans hj
       rintro v6 w6 hown6 hb6))
  have h0 : w6.ownsRow w.heap.size 5 1 v6 8 (bts ([79, 67, 72, 49] ++ beB n 4 ++ chestsOf (l.take 0))) := by simpa [chestsOf] using hown6
  have HO6 := Lib.hid h0
  have HB6 := Lib.hid hb6
  clear h0 hown6 hb6 HO5 HB5 HO4 HB4 HC4 HC5
  go_loopw [3, 4, 5] (fun v i _ wr => ∃ k m : Nat, k ≤ n ∧ i = .int .i64 k ∧ m < 2000000 ∧ wr.ownsRow w.heap.size 5 1 v m (bts ([79, 67, 72, 49] ++ beB n 4 ++ chestsOf (l.take k))) ∧ Below w.heap.size w wr) (fun _ i _ _ => n - (intOf i).toNat)
  case atStart => exact ⟨0, 8, by omega, rfl, by omega, HO6.out, HB6.out⟩
  case round =>
    obtain ⟨k, m, hk, rfl, hm, hown, hb⟩ := hrel
    obtain ⟨A7, c7, rfl, h7⟩ := ownB_of hown
    have HO7 := Lib.hid h7
    have HB7 := Lib.hid hb
    clear h7 hb hown
    by_cases hlt : k < n
    · have hd := hd_lt_t hlt
      obtain ⟨ad, x, B, cb, D, dd, rfl, ho, HX, c0, ht0, c1, hb1, hb2, hb3, c2, hd1, hd3, hd4⟩ := row_chest_get H.out (k := k) (by have := HN.out; omega)
      have hsz := bs_size x.tag
      obtain ⟨n1, hn1⟩ : ∃ n1, x.tag.length = n1 := ⟨_, rfl⟩
      obtain ⟨n2, hn2⟩ : ∃ n2, x.text.length = n2 := ⟨_, rfl⟩
      obtain ⟨n3, hn3⟩ : ∃ n3, x.layers.length = n3 := ⟨_, rfl⟩
      rw [hn1] at hsz
      rw [hn2] at c1 hb1
      rw [hn3] at c2 hd1
      have HNX : Hid (1 + n1 + n2 + totL x.layers ≤ tot l) := by
        show _ ≤ _
        have h9 := tot_take_le l (k + 1)
        rw [take_snoc HX.out, tot_snoc, hn1, hn2] at h9
        omega
      have hn12 : n1 + n2 + n3 < 100000 := by
        have h9 := HNX.out
        have := totL_len x.layers
        rw [hn3] at this
        omega
      have i0 : (0 : Int) ≤ (k : Int) := by omega
      have i1 : (k : Int) < (n : Int) := by omega
      have HN1 := Lib.hid hn1
      have HN2 := Lib.hid hn2
      have HN3 := Lib.hid hn3
      have HT := Lib.hid (show HasB w B n2 x.text from ⟨hn2, hb3.mono fun _ _ hlt => hlt⟩)
      have HL := Lib.hid hd4
      clear hn1 hn2 hn3 hb3 hd4
      rw [← add_of_add] at c1 c2
      have b1 : w.cell? ⟨(ad.add (k * 3)).block, (ad.add (k * 3)).off + 1, none⟩ = some (.slice B n2 cb) := c1
      have b2 : w.cell? ⟨(ad.add (k * 3)).block, (ad.add (k * 3)).off + 2, none⟩ = some (.slice D n3 dd) := c2
      clear c1 c2
      have C1 := Lib.hid b1
      have C0 := Lib.hid c0
      have C2 := Lib.hid b2
      have c0r := cellB c0 HB7.out
      have c1r := cellB b1 HB7.out
      clear b1 b2 c0
      have hcv : ∀ W : World, (convert 9 33 (.string (bs x.tag))).run Tryz.prog W = .ok (.slice (some ⟨W.heap.size, 0, none⟩) n1 (grownCap W n1 0 5)) (Lib.bytesWorld W 5 (bs x.tag)) := by
        intro W
        have := Lib.run_convert_string_bytes (P := Tryz.prog) W 9 33 5 (bs x.tag) Tryz.underlying9 Tryz.underlying33 Tryz.underlying5
        rw [hsz] at this
        exact this
      go_upto_region 5 with fail
      have cbw := cellB c1r (below_conv wr 5 (bs x.tag))
      go_cut [3] from 14 to 67 (fun v wx => wx.ownsRow w.heap.size 5 1 v (m + (4 + n1) + (4 + n2)) (bts ([79, 67, 72, 49] ++ beB n 4 ++ chestsOf (l.take k) ++ rowOf x.tag ++ rowOf x.text)) ∧ Below w.heap.size w wx)
      case first =>
        go_region_law (first
          | (go_simp; go_at_call 42
             with_reducible change Calls _ _ #[Value.slice (some ⟨wr.heap.size, 0, none⟩) _ _] _ _
             refine (rrow_any (some ⟨wr.heap.size, 0, none⟩) _ n1 x.tag _ (has_bytesWorld wr.drew x.tag n1 HN1.out ht0) (by omega)).mono ?_
             rintro e w8 hN8
             obtain ⟨A8, c8, rfl, h8, hb8⟩ := hN8.out (4 + n1) (by rw [rowOf_length, HN1.out])
             have hB8 : Below wr.heap.size wr w8 := conv_step hb8
             clear hN8 hb8
             have hb8' := below_step HB7.out HB7.out.size hB8
             have c18 := cellB C1.out hb8'
             have HB8' := Lib.hid hb8'
             clear hb8'
             have HO8 := Lib.hid h8
             have HB8 := Lib.hid hB8
             clear h8 hB8)
          | (refine step_cat (w0 := w) (by rfl) (.tmp 20) (.tmp 27) 33 (by rfl) w.heap.size Tryz.underlying33 Tryz.info5 (HO7.out.kept HB8.out).own (by rfl) HB8'.out c8 (by rfl) HO8.out.has (by omega) HB8'.out.size ?_
             intro v9 w9 hown9 hb9 hg9 _
             have c19 := cellB C1.out hb9
             have HO9 := Lib.hid hown9
             have HB9 := Lib.hid hb9
             clear hown9 hb9)
          | (go_simp; go_at_call 42
             with_reducible change Calls _ _ #[Value.slice B _ _] w9 _
             refine (rrow_any B cb n2 x.text w9 (HT.out.kept HB9.out) (by omega)).mono ?_
             rintro e w10 hN10
             obtain ⟨A10, c10, rfl, h10, hb10⟩ := hN10.out (4 + n2) (by rw [rowOf_length, HN2.out])
             have HO10 := Lib.hid h10
             have HB10 := Lib.hid (below_step HB9.out HB9.out.size hb10)
             have HK10 := Lib.hid (own_chg HO9.out (Chg.of_below hb10 (fun _ => False)) (fun _ _ h => h))
             clear hN10 h10 hb10)
          | (refine step_cat (w0 := w) (by rfl) (.tmp 28) (.tmp 34) 33 (by rfl) w.heap.size Tryz.underlying33 Tryz.info5 HK10.out (by rfl) HB10.out c10 (by rfl) HO10.out.has (by omega) HB10.out.size ?_
             intro v11 w11 hown11 hb11 _ _)
          | fail)
        all_goals (go_wp2_with fail; go_meet; exact ⟨hown11, hb11⟩)
      obtain ⟨hown11, hb11⟩ := hcut
      generalize hwc : wc = w11 at *
      clear hwc
      have HO11 := Lib.hid hown11
      have HB11 := Lib.hid hb11
      clear hown11 hb11
      obtain ⟨m1, hm1⟩ : ∃ m1, m1 = m + (4 + n1) + (4 + n2) := ⟨_, rfl⟩
      rw [← hm1] at HO11
      have c2r := cellB C2.out HB11.out
      go_wp2_with (first
        | (go_at_call 41
           refine (Little_new n3 4 _ (by omega) (by omega)).mono ?_
           rintro e w12 ⟨A12, c12, rfl, h12, hb12⟩
           have HO12 := Lib.hid h12
           have HB12 := Lib.hid (below_step HB11.out HB11.out.size hb12)
           have HK12 := Lib.hid (own_chg HO11.out (Chg.of_below hb12 (fun _ => False)) (fun _ _ h => h))
           clear h12 hb12)
        | (go_at_call 40
           refine (Back_new A12 c12 4 _ _ HO12.out.has (by omega)).mono ?_
           rintro e w13 ⟨A13, c13, rfl, h13, hb13⟩
           rw [leB_reverse] at h13
           have HO13 := Lib.hid h13
           have HB13 := Lib.hid (below_step HB12.out HB12.out.size hb13)
           have HK13 := Lib.hid (own_chg HK12.out (Chg.of_below hb13 (fun _ => False)) (fun _ _ h => h))
           clear h13 hb13)
        | (with_reducible change wpList _ _ _ ({ dst := some 46, op := _, type := _, pos := _, after := _, guard := _ } :: _) _ _; go_must (refine wpList_cat rfl (.tmp 36) (.tmp 45) 33 rfl w.heap.size Tryz.underlying33 Tryz.info5 (HK13.out) rfl (HB13.out) c13 rfl (HO13.out.has) (by omega) (HB13.out).size ?_)
           rintro v14 w14 hown14 hb14 _ _
           have HO14 := Lib.hid hown14
           have HB14 := Lib.hid hb14
           clear hown14 hb14))
      obtain ⟨Z, hZ⟩ : ∃ Z, Z = [79, 67, 72, 49] ++ beB n 4 ++ chestsOf (l.take k) ++ rowOf x.tag ++ rowOf x.text ++ beB n3 4 := ⟨_, rfl⟩
      have h14 : w14.ownsRow w.heap.size 5 1 v14 (m1 + 4) (bts (Z ++ rowsOf (x.layers.take 0))) := by
        have h9 := HO14.out
        rw [← hZ] at h9
        simpa [rowsOf] using h9
      have HZ := Lib.hid hZ
      have HN14 := Lib.hid h14
      obtain ⟨m2, hm2⟩ : ∃ m2, m2 = m1 + 4 := ⟨_, rfl⟩
      rw [← hm2] at HN14
      clear hZ h14 HO14 HO13 HK13 HO12 HK12 HO11 cbw hcv c0r c1r c2r
      go_loopw [3, 5] (fun v i wr => ∃ j m' : Nat, j ≤ n3 ∧ i = .int .i64 j ∧ m' ≤ m2 + 4 * totL (x.layers.take j) ∧ wr.ownsRow w.heap.size 5 1 v m' (bts (Z ++ rowsOf (x.layers.take j))) ∧ Below w.heap.size w wr) (fun _ i _ => n3 - (intOf i).toNat)
      case atStart => exact ⟨0, m2, by omega, rfl, by omega, HN14.out, HB14.out⟩
      case round =>
        obtain ⟨j, m', hj, rfl, hm', hown, hb⟩ := hrel
        obtain ⟨A15, c15, rfl, h15⟩ := ownB_of hown
        have HO15 := Lib.hid h15
        have HB15 := Lib.hid hb
        clear h15 hb hown
        have c2r := cellB C2.out HB15.out
        have hmb : m' < 4000000 := by
          have h8 := totL_take_le x.layers j
          have h9 := HNX.out
          omega
        have HM := Lib.hid hm'
        clear hm'
        by_cases hjl : j < n3
        · have hd2 := hd_lt_t hjl
          obtain ⟨ad2, y, B2, cb2, rfl, ho2, HY, cy, hy1, hy2, hy3⟩ := row_rows_get HL.out (k := j) (by have := HN3.out; omega)
          obtain ⟨n4, hn4⟩ : ∃ n4, y.length = n4 := ⟨_, rfl⟩
          rw [hn4] at cy hy1
          have cyr := cellB cy HB15.out
          have HH := Lib.hid (show HasB w B2 n4 y from ⟨hn4, hy3.mono fun _ _ hlt => hlt⟩)
          have hn4b : n4 < 100000 := by
            have h8 := totL_take_le x.layers (j + 1)
            rw [take_snoc HY.out, totL_snoc, hn4] at h8
            have h9 := HNX.out
            omega
          have i2 : (0 : Int) ≤ (j : Int) := by omega
          have i3 : (j : Int) < (n3 : Int) := by omega
          have HN4 := Lib.hid hn4
          clear hn4 hy3 cy
          go_wp2_with (first
            | (go_at_call 42
               refine (rrow_any B2 cb2 n4 y _ (HH.out.kept HB15.out) (by omega)).mono ?_
               rintro e w16 hN16
               obtain ⟨A16, c16, rfl, h16, hb16⟩ := hN16.out (4 + n4) (by rw [rowOf_length, HN4.out])
               have HO16 := Lib.hid h16
               have HB16 := Lib.hid (below_step HB15.out HB15.out.size hb16)
               have HK16 := Lib.hid (own_chg HO15.out.own (Chg.of_below hb16 (fun _ => False)) (fun _ _ h => h))
               clear hN16 h16 hb16)
            | (with_reducible change wpList _ _ _ ({ dst := some 67, op := _, type := _, pos := _, after := _, guard := _ } :: _) _ _; go_must (refine wpList_cat rfl (.tmp 57) (.tmp 66) 33 rfl w.heap.size Tryz.underlying33 Tryz.info5 (HK16.out) rfl (HB16.out) c16 rfl (HO16.out.has) (by omega) (HB16.out).size ?_)
               rintro v17 w17 hown17 hb17 _ _))
          go_roundw
          case measure => simp [intOf]; omega
          case rel =>
            refine ⟨j + 1, m' + (4 + n4), by omega, by go_num, ?_, ?_, hb17⟩
            · rw [take_snoc HY.out, totL_snoc, HN4.out]
              have := HM.out
              omega
            · rw [take_snoc HY.out, rowsOf_snoc, ← List.append_assoc]
              exact hown17
        · have hd2 := hd_lt_f hjl
          obtain rfl : j = n3 := by omega
          go_wp2_with fail
          go_roundw
          case measure => simp [intOf]; omega
          case rel =>
            have h9 := HO15.out.own
            have e9 : Z ++ rowsOf (x.layers.take j) = [79, 67, 72, 49] ++ beB n 4 ++ chestsOf (l.take (k + 1)) := by
              rw [chestOf_get HX.out, HZ.out, List.take_of_length_le (l := x.layers) (by have := HN3.out; omega)]
              unfold chestOf
              rw [HN3.out]
              simp only [List.append_assoc]
            rw [e9] at h9
            refine ⟨k + 1, m', by omega, by go_num, ?_, h9, HB15.out⟩
            have h10 := h9.1
            rw [bts_length] at h10
            simp only [List.length_append, beB_length] at h10
            have h11 := chestsOf_le (l.take (k + 1))
            have h12 := tot_take_le l (k + 1)
            have h13 : ([79, 67, 72, 49] : List UInt8).length = 4 := rfl
            omega
    · have hd := hd_lt_f hlt
      obtain rfl : k = n := by omega
      go_wp2_with fail
      go_ret
      refine ⟨_, rfl, ?_, HB7.out⟩
      have h9 := HO7.out.own
      have e9 : [79, 67, 72, 49] ++ beB k 4 ++ chestsOf (l.take k) = bodyOf l := by
        rw [List.take_of_length_le (by have := HN.out; omega)]
        unfold bodyOf
        rw [HN.out]
      rw [e9] at h9
      have h10 := h9.1
      rw [bts_length, Nat.mul_one] at h10
      rw [h10]
      exact h9
end Go.Proofs.YtkenmpggblefiaaGreatDoor
