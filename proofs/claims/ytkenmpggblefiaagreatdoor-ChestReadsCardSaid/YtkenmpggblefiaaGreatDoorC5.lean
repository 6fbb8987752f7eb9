/- The walk of the reference's writing of chests. -/
import Derived.Test.YtkenmpggblefiaaGreatDoorC4
namespace Go.Proofs.YtkenmpggblefiaaGreatDoor
open Go.RowKit
attribute [local go_sem ↓] Go.wp_at_zero Go.wp_at_succ

theorem cr_next_many (s : Cr) (xs : List UInt8) : (s.next xs).many ≤ s.many + 1 := by
  rcases s with _ | ts
  · simp [Cr.next, Cr.many]
  · simp only [Cr.next, Cr.many]
    split <;> simp
theorem RefIs.lt {G : Nat → Prop} {w : World} {r : Nat} {vt vb : Value} {s : Cr} (h : RefIs G w r vt vb s) : r < w.heap.size := h.head.lt
theorem RefIs.vt_lt {G : Nat → Prop} {w : World} {r : Nat} {vt vb : Value} {s : Cr} (h : RefIs G w r vt vb s) : ∀ g, vt.ownBlock = some g → g < w.heap.size := by
  obtain ⟨cs, ht⟩ := h.texts
  exact fun g hg => (ht.own.lt g hg).2
/-- the reference's crypt at block r, all its blocks of G -/
def RefAt (G : Nat → Prop) (w : World) (r : Nat) (vb : Value) (s : Cr) : Prop := ∃ vt, RefIs G w r vt vb s ∧ G r ∧ ∀ g, vt.ownBlock = some g → G g
theorem RefAt.mono {G G' : Nat → Prop} {w : World} {r : Nat} {vb : Value} {s : Cr} (h : RefAt G w r vb s) (hG : ∀ b, b < w.heap.size → G b → G' b) : RefAt G' w r vb s := by
  obtain ⟨vt, h1, h2, h3⟩ := h
  exact ⟨vt, h1.mono hG, hG _ h1.lt h2, fun g hg => hG g (h1.vt_lt g hg) (h3 g hg)⟩
theorem RefAt.cut {G : Nat → Prop} {w : World} {r : Nat} {vb : Value} {s : Cr} (h : RefAt G w r vb s) : RefAt (fun b => G b ∧ b < w.heap.size) w r vb s := h.mono fun _ hb hG => ⟨hG, hb⟩
theorem RefAt.chg {G F : Nat → Prop} {w w' : World} {r : Nat} {vb : Value} {s : Cr} (h : RefAt G w r vb s) (k : Chg F w w') (hF : ∀ b, b < w.heap.size → G b → ¬ F b) : RefAt G w' r vb s := by
  obtain ⟨vt, h1, h2, h3⟩ := h
  exact ⟨vt, h1.chg k (hF _ h1.lt h2) (fun g hg => hF g (h1.vt_lt g hg) (h3 g hg)) (fun b hb => hF b hb.lt hb.1), h2, h3⟩
theorem RefAt.below {G : Nat → Prop} {w w' : World} {r : Nat} {vb : Value} {s : Cr} (h : RefAt G w r vb s) (k : Below w.heap.size w w') : RefAt G w' r vb s :=
  h.chg (Chg.of_below k (fun _ => False)) (fun _ _ _ h => h)
/-- what a Sum of the reference's crypt leaves -/
def RefPost (G : Nat → Prop) (r : Nat) (vb : Value) (s : Cr) (xs : List UInt8) (w : World) (e : Ending) (w' : World) : Prop := ∃ x B G', e = .returned x ∧ w.heap.size ≤ B ∧ w'.ownsRow B 5 1 x 32 (bts (s.dig xs)) ∧
      RefAt G' w' r vb (s.next xs) ∧ Chg G w w' ∧ (∀ b, G' b → G b ∨ (w.heap.size ≤ b ∧ b < B))
theorem rSum_any (G : Nat → Prop) (r : Nat) (vb : Value) (s : Cr) (A : Option Addr) (c n : Nat) (xs : List UInt8) (w : World) (h : HasB w A n xs) (hr : RefAt G w r vb s) (hx : n < 100000000000000) (hm : s.many < 1000000000000) :
    Calls Tryz.prog 13 #[.pointer (some ⟨r, 0, none⟩), .slice A n c] w fun e w' => RefPost G r vb s xs w e w' := by
  obtain ⟨vt, h1, h2, h3⟩ := hr
  rcases s with _ | ts
  · refine (rSum_real G r vt vb A c n xs w h h1 hx).mono ?_
    rintro e w' ⟨x, rfl, ho, hb⟩
    exact ⟨x, w.heap.size, G, rfl, Nat.le_refl _, ho, ⟨vt, h1.chg (Chg.of_below hb (fun _ => False)) (fun h => h) (fun _ _ h => h) (fun _ _ h => h), h2, h3⟩, Chg.of_below hb _, fun b hb => .inl hb⟩
  · refine (rSum_book G r vt vb ts A c n xs w h h1 hx hm).mono ?_
    rintro e w' ⟨x, vt', B, rfl, hB, ho, hr, hc, hv⟩
    refine ⟨x, B, _, rfl, hB, ho, ⟨vt', hr, .inl h2, fun g hg => ?_⟩, hc.mono fun i _ hi => ?_, fun b h => h⟩
    · rcases hv g hg with h9 | h9
      · exact .inl (h3 g h9)
      · exact .inr h9
    · rcases hi with rfl | hi
      · exact h2
      · exact h3 i hi.symm
theorem own_chg_ge {F : Nat → Prop} {w w' : World} {base : Nat} {e : TypeId} {size n : Nat} {v : Value} {xs : List Value} (h : w.ownsRow base e size v n xs) (k : Chg F w w') (hF : ∀ i, F i → i < base) : w'.ownsRow base e size v n xs :=
  own_chg h k fun g hg hf => by have := (h.lt g hg).1; have := hF g hf; omega
theorem own_base {w : World} {b b' : Nat} {e : TypeId} {size n : Nat} {v : Value} {xs : List Value} (h : w.ownsRow b e size v n xs) (hb : b' ≤ b) : w.ownsRow b' e size v n xs :=
  ⟨h.1, h.2.imp id fun ⟨g, c, d, e1, e2, e3⟩ => ⟨g, c, d, e1, Nat.le_trans hb e2, e3⟩⟩

/-- too many -/
def bigL (l : List Chest) : Bool := decide (1024 < l.length) || l.any fun x => decide (64 < x.layers.length)
/-- what is written -/
def wrOf (s : Cr) (l : List Chest) : List UInt8 := bodyOf l ++ s.dig (bodyOf l)
theorem bodyOf_le (l : List Chest) : (bodyOf l).length ≤ 8 + 12 * tot l := by
  have := chestsOf_le l
  simp [bodyOf, beB_length]
  omega
theorem wrOf_le (s : Cr) (l : List Chest) : (wrOf s l).length ≤ 40 + 12 * tot l := by
  have := bodyOf_le l
  simp [wrOf, Cr.dig_length]
  omega
/-- what the reference's Bytes leaves -/
def RBytesPost (G : Nat → Prop) (r : Nat) (vb : Value) (s : Cr) (l : List Chest) (w : World) (e : Ending) (w' : World) : Prop :=
  if bigL l = true then e = .returned (.tuple #[.slice none 0 0, .int .i64 3]) ∧ ∃ q, w' = w.drewN q
  else ∃ x G', e = .returned (.tuple #[x, .int .i64 0]) ∧ w'.ownsRow w.heap.size 5 1 x (wrOf s l).length (bts (wrOf s l)) ∧
    RefAt G' w' r vb (s.next (bodyOf l)) ∧ Chg G w w' ∧ (∀ b, G' b → G b ∨ (w.heap.size ≤ b ∧ x.ownBlock ≠ some b))

set_option maxHeartbeats 1000000 in
theorem rBytes_any (G : Nat → Prop) (r : Nat) (vb : Value) (s : Cr) (A : Option Addr) (c n : Nat) (l : List Chest) (w : World) (h : RowV kChest w (old w) A l) (hn : l.length = n) (hT : tot l < 100000) (hr : RefAt G w r vb s) (hG : ∀ b, G b → b < w.heap.size) (hm : s.many < 1000000000000) :
    Calls Tryz.prog 9 #[.pointer (some ⟨r, 0, none⟩), .slice A n c] w fun e w' => RBytesPost G r vb s l w e w' := by
  have hl := h.1
  rw [hn] at hl
  have H := Lib.hid h
  have HN := Lib.hid hn
  have HR := Lib.hid hr
  clear h hn hr
  by_cases hbig : 1024 < n
  · have hd : decide (1024 < (n : Int)) = true := by simp; omega
    have hB : bigL l = true := by
      unfold bigL
      rw [HN.out]
      simp [hbig]
    have HB := Lib.hid hB
    clear hB
    go_enter Tryz.func9, Tryz.ntmps9
    go_wp2_with fail
    go_ret2
    unfold RBytesPost
    rw [if_pos HB.out]
    exact ⟨rfl, 0, rfl⟩
  · have hd : decide (1024 < (n : Int)) = false := by simp; omega
    go_enter Tryz.func9, Tryz.ntmps9
    go_wp2_with fail
    go_loopw [6] (fun i wr => ∃ k : Nat, k ≤ n ∧ i = .int .i64 k ∧ Hid ((l.take k).any (fun x => decide (64 < x.layers.length)) = false) ∧ ∃ q, wr = w.drewN q) (fun i _ => n - (intOf i).toNat)
    case atStart => exact ⟨0, Nat.zero_le _, rfl, rfl, 0, rfl⟩
    case round =>
      obtain ⟨k, hk, rfl, HE, q, rfl⟩ := hrel
      by_cases hlt : k < n
      · have hd2 := hd_lt_t hlt
        obtain ⟨ad, x, B, cb, D, dd, rfl, ho, HX, c0, ht0, c1, hb1, hb2, hb3, c2, hd1, hd3, hd4⟩ := row_chest_get H.out (k := k) (by have := HN.out; omega)
        obtain ⟨n3, hn3⟩ : ∃ n3, x.layers.length = n3 := ⟨_, rfl⟩
        rw [hn3] at c2 hd1
        rw [← add_of_add] at c2
        replace c2 : w.cell? ⟨(ad.add (k * 3)).block, (ad.add (k * 3)).off + 2, none⟩ = _ := c2
        have i0 : (0 : Int) ≤ (k : Int) := by omega
        have i1 : (k : Int) < (n : Int) := by omega
        have HN3 := Lib.hid hn3
        clear hn3 hd4 hb3 c0 c1 ho hb1
        by_cases hgt : 64 < n3
        · have hd4 : decide (64 < (n3 : Int)) = true := by simp; omega
          have hB : bigL l = true := by
            unfold bigL
            rw [Bool.or_eq_true]
            right
            rw [List.any_eq_true]
            exact ⟨x, List.mem_of_getElem? HX.out, by rw [HN3.out]; simpa using hgt⟩
          have HB := Lib.hid hB
          clear hB
          go_wp2_with fail
          go_ret2
          unfold RBytesPost
          rw [if_pos HB.out]
          exact ⟨rfl, _, rfl⟩
        · have hd4 : decide (64 < (n3 : Int)) = false := by simp; omega
          go_wp2_with fail
          go_roundw
          case measure => simp [intOf]; omega
          case rel =>
            refine ⟨k + 1, by omega, by go_num, ?_, _, rfl⟩
            show _ = _
            rw [take_snoc HX.out, List.any_append, HE.out]
            simp [HN3.out]
            omega
      · have hd2 := hd_lt_f hlt
        obtain rfl : k = n := by omega
        have hB : ¬ bigL l = true := by
          unfold bigL
          have h9 := HE.out
          rw [List.take_of_length_le (by have := HN.out; omega)] at h9
          rw [h9, HN.out]
          simp
          omega
        have HB := Lib.hid hB
        clear hB
        obtain ⟨w0, hw0⟩ : ∃ w0, w0 = w.drewN q := ⟨_, rfl⟩
        rw [← hw0]
        have hC0 : Chg (fun _ => False) w w0 := by rw [hw0]; exact chg_drewN _ _ _
        have HH0 := Lib.hid (show RowV kChest w0 (old w0) A l by rw [hw0]; exact H.out.move fun b hb _ => ⟨hb, rfl⟩)
        have HR0 := Lib.hid (HR.out.chg hC0 (fun _ _ _ h => h))
        have HC0 := Lib.hid hC0
        have HS0 : w.heap.size = w0.heap.size := by rw [hw0]; rfl
        clear hw0 hC0
        go_wp2_with fail
        refine (rBody_any A c k l w0 HH0.out HN.out hT).mono ?_
        rintro e w1 hN1
        obtain ⟨m, hm1⟩ : ∃ m, (bodyOf l).length = m := ⟨_, rfl⟩
        obtain ⟨A1, c1, rfl, h1, hb1⟩ := hN1.out m hm1
        have hmb : m < 2000000 := by
          have := bodyOf_le l
          omega
        have HO1 := Lib.hid h1
        have HB1 := Lib.hid hb1
        have HM1 := Lib.hid hm1
        clear h1 hb1 hN1 hm1
        go_wp2_with (first
          | (with_reducible change wpList _ _ _ ({ dst := some 28, op := _, type := _, pos := _, after := _, guard := _ } :: _) _ _; go_must (refine wpList_cat (w0 := w0) rfl (.tmp 26) (.tmp 27) 33 rfl w0.heap.size Tryz.underlying33 Tryz.info5 (own_emptyB w1 _ HB1.out.size) rfl (HB1.out.alloc HB1.out.size _) c1 rfl (HO1.out.has.kept (below_new w1 _)) (by omega) (by simp; have := HB1.out.size; omega) ?_)
             rintro v2 w2 hown2 hb2 hg2 hat2))
        have hb12 : Below w1.heap.size w1 w2 := below_of_grown (below_new w1 _) hg2 (by simp) (Nat.le_refl _)
        rw [Nat.zero_add, List.nil_append] at hown2
        have HX2 := Lib.hid (HO1.out.has.kept hb12)
        have HR2 := Lib.hid (HR0.out.below hb2)
        have HO2 := Lib.hid hown2
        have HB2 := Lib.hid hb2
        clear hown2 hb2 hg2 hat2 hb12
        refine (rSum_any G r vb s A1 c1 m (bodyOf l) w2 HX2.out HR2.out (by omega) hm).mono ?_
        rintro e w3 ⟨x, B3, G3, rfl, hB3, hx, hr3, hc3, hv3⟩
        obtain ⟨A3, c3, rfl, h3⟩ := ownB_of hx
        have HO3 := Lib.hid h3
        have HR3 := Lib.hid hr3
        have HC3 := Lib.hid hc3
        have HV3 := Lib.hid hv3
        have HBB := Lib.hid hB3
        have HGG : Hid (∀ b, G b → b < w0.heap.size) := fun b hb => HS0 ▸ hG b hb
        have HK3 := Lib.hid (own_chg_ge HO2.out hc3 HGG.out)
        clear hx h3 hr3 hc3 hv3 hB3 hG
        have hs3 : w0.heap.size ≤ w3.heap.size := Nat.le_trans HB2.out.size HC3.out.size
        go_wp2_with (first
          | (with_reducible change wpList _ _ _ ({ dst := some 32, op := _, type := _, pos := _, after := _, guard := _ } :: _) _ _; go_must (refine wpList_cat (w0 := w3) rfl (.tmp 28) (.tmp 31) 33 rfl w0.heap.size Tryz.underlying33 Tryz.info5 HK3.out rfl (Below.refl _ _) c3 rfl HO3.out.has (by omega) hs3 ?_)
             rintro v4 w4 hown4 hb4 hg4 hat4))
        go_ret2
        have hg : ∀ g, v2.ownBlock = some g → w0.heap.size ≤ g ∧ g < w2.heap.size := fun g hg => ⟨(HK3.out.lt g hg).1, (HO2.out.lt g hg).2⟩
        have c34 : Chg (fun i => some i = v2.ownBlock) w3 w4 := Chg.of_grown hg4
        have hne : ∀ b, G3 b → some b ≠ v2.ownBlock := by
          intro b hb e
          have h8 := hg b e.symm
          rcases HV3.out b hb with h9 | h9
          · have := HGG.out b h9
            omega
          · omega
        have hr4 : RefAt G3 w4 r vb (s.next (bodyOf l)) := HR3.out.chg c34 (fun b _ hb e => hne b hb e)
        unfold RBytesPost
        rw [if_neg HB.out]
        have hlt3 : ∀ b, G3 b → b < w3.heap.size := by
          intro b hb
          rcases HV3.out b hb with h9 | h9
          · have := HGG.out b h9
            omega
          · obtain ⟨ad, rfl⟩ := HO3.out.some_ (by omega)
            obtain ⟨_, e9, h8, h7, _⟩ := HO3.out.row.2 (by rw [HO3.out.len]; omega)
            cases e9
            have := h8.1
            omega
        have hC : Chg G w w4 := ((((HC0.out.trans (Chg.of_below HB2.out (fun _ => False)) (fun _ _ h => h)).mono (G := G) (fun _ _ h => h.elim))).trans HC3.out (fun _ _ h => h)).trans c34 (fun i hi e => by
          have := (hg i e.symm).1
          omega)
        refine ⟨_, _, rfl, ?_, hr4, hC, ?_⟩
        · rw [HS0]
          have e1 : (wrOf s l).length = m + 32 := by simp [wrOf, Cr.dig_length, HM1.out]
          rw [e1]
          exact hown4
        · intro b hb
          rcases HV3.out b hb with h9 | h9
          · exact .inl h9
          · have h8 := HB2.out.size
            refine .inr ⟨by omega, fun e => ?_⟩
            rcases hat4 with h7 | h7
            · exact hne b hb (e.symm.trans h7)
            · have h6 := hlt3 b hb
              have h5 := e.symm.trans h7
              have : b = w3.heap.size := Option.some.inj h5
              omega
end Go.Proofs.YtkenmpggblefiaaGreatDoor
