/- The walks of the program's reader. -/
import Derived.Test.YtkenmpggblefiaaGreatDoorCB
namespace Go.Proofs.YtkenmpggblefiaaGreatDoor
open Go.RowKit
attribute [local go_sem ↓] Go.wp_at_zero Go.wp_at_succ

/-- the reader at block p: what it has still to read, and whether something was wrong -/
def RdAt (ok : Nat → Prop) (w : World) (p : Nat) (ys : List UInt8) (bad : Bool) : Prop :=
  ∃ A n c, Blk w p 60 #[.slice A n c, .bool bad] ∧ ys.length = n ∧ n ≤ c ∧ RowV Kn.byte w ok A ys
def RdSt (ok : Nat → Prop) (w : World) (p : Nat) (bd : List UInt8) : Option Nat → Prop
  | some q => q ≤ bd.length ∧ RdAt ok w p (bd.drop q) false
  | none => ∃ ys, ys.length ≤ bd.length ∧ RdAt ok w p ys true
theorem RdAt.chg {ok F : Nat → Prop} {w w' : World} {p : Nat} {ys : List UInt8} {bad : Bool} (h : RdAt ok w p ys bad) (k : Chg F w w') (hp : ¬ F p) (hF : ∀ b, ok b → ¬ F b) : RdAt ok w' p ys bad := by
  obtain ⟨A, n, c, h1, h2, h3, h4⟩ := h
  exact ⟨A, n, c, h1.chg k hp, h2, h3, h4.chg k fun b _ hb => ⟨hb, hF b hb⟩⟩
theorem RdSt.chg {ok F : Nat → Prop} {w w' : World} {p : Nat} {bd : List UInt8} {st : Option Nat} (h : RdSt ok w p bd st) (k : Chg F w w') (hp : ¬ F p) (hF : ∀ b, ok b → ¬ F b) : RdSt ok w' p bd st := by
  rcases st with _ | q
  · obtain ⟨ys, h1, h⟩ := h
    exact ⟨ys, h1, h.chg k hp hF⟩
  · exact ⟨h.1, h.2.chg k hp hF⟩
theorem RdSt.below {ok : Nat → Prop} {w w' : World} {p : Nat} {bd : List UInt8} {st : Option Nat} (h : RdSt ok w p bd st) (k : Below w.heap.size w w') : RdSt ok w' p bd st :=
  h.chg (Chg.of_below k (fun _ => False)) (fun h => h) (fun _ _ h => h)
theorem RdSt.lt {ok : Nat → Prop} {w : World} {p : Nat} {bd : List UInt8} {st : Option Nat} (h : RdSt ok w p bd st) : p < w.heap.size := by
  rcases st with _ | q
  · obtain ⟨ys, _, A, n, c, h1, _⟩ := h
    exact h1.lt
  · obtain ⟨_, A, n, c, h1, _⟩ := h
    exact h1.lt
/-- a number that is read -/
def num (bd : List UInt8) (most : Nat) : Option Nat → Nat × Option Nat
  | none => (0, none)
  | some q => if q + 4 > bd.length ∨ gB (bd.drop q) 4 > most then (0, none) else (gB (bd.drop q) 4, some (q + 4))

set_option maxHeartbeats 400000 in
theorem clone_any (A : Option Addr) (c n : Nat) (xs : List UInt8) (w : World) (ok : Nat → Prop) (h : RowV Kn.byte w ok A xs) (hn : xs.length = n) (hx : n < 1000000000000) :
    Calls Tryz.prog 60 #[.slice A n c] w fun e w' => NewB w w' e xs := by
  have q33 : ∀ (w : World) (a : Option Addr) (n c n' c' : Nat), (binOp .eql 33 (.slice a n c) (.slice none n' c')).run Tryz.prog w = .ok (.bool a.isNone) w := fun w a n c n' c' => Lib.run_eql_slice_nil w _ _ a n c n' c' Tryz.underlying33
  rcases A with _ | ad
  · have hx0 : xs = [] := by
      rcases Nat.eq_zero_or_pos xs.length with h0 | h0
      · exact List.eq_nil_of_length_eq_zero h0
      · obtain ⟨ad, e, _⟩ := h.2 h0
        cases e
    subst hx0
    subst hn
    go_enter Tryz.func60, Tryz.ntmps60
    go_wp2_with fail
    go_ret
    exact ⟨_, rfl, World.ownsRow_nil _ _ _ _, Below.refl _ _⟩
  · have H := Lib.hid (show HasB w (some ad) n xs from ⟨hn, h.mono fun _ _ hlt => hlt⟩)
    have HN := Lib.hid hn
    clear h hn
    go_enter Tryz.func60, Tryz.ntmps60
    go_wp2_with (with_reducible change wpList _ _ _ ({ dst := some 7, op := _, type := _, pos := _, after := _, guard := _ } :: _) _ _; go_must (refine wpList_cat rfl (.tmp 5) (.tmp 6) 33 rfl w.heap.size Tryz.underlying33 Tryz.info5 (own_emptyB w _ (Nat.le_refl _)) rfl (below_new w _) c rfl (H.out.kept (below_new w _)) (by omega) (below_new w _).size ?_)
                 rintro v1 w1 hown1 hb1 _ _)
    go_ret
    refine ⟨_, rfl, ?_, hb1⟩
    rw [HN.out]
    simpa using hown1

def NumPost (ok : Nat → Prop) (p : Nat) (ys : List UInt8) (bad : Bool) (most : Nat) (w : World) (e : Ending) (w' : World) : Prop :=
  (if ys.length < 4 ∨ gB ys 4 > most ∨ bad = true then e = .returned (.int .i64 0) ∧ RdAt ok w' p ys true else e = .returned (.int .i64 (gB ys 4 : Nat)) ∧ RdAt ok w' p (ys.drop 4) false) ∧ w.grownBy w' (some p)

set_option maxHeartbeats 1000000 in
theorem rnumber_any (ok : Nat → Prop) (p : Nat) (bd : List UInt8) (st : Option Nat) (most : Nat) (w : World) (h : RdSt ok w p bd st) (hok : ¬ ok p) (hbd : bd.length < 1000000000) (hmost : most < 1000000000000) :
    Calls Tryz.prog 43 #[.pointer (some ⟨p, 0, none⟩), .int .i64 most] w fun e w' => e = .returned (.int .i64 ((num bd most st).1 : Int)) ∧ RdSt ok w' p bd (num bd most st).2 ∧ w.grownBy w' (some p) := by
  have key : ∀ (ys : List UInt8) (bad : Bool), RdAt ok w p ys bad → ys.length < 1000000000 → Calls Tryz.prog 43 #[.pointer (some ⟨p, 0, none⟩), .int .i64 most] w fun e w' => NumPost ok p ys bad most w e w' := by
    clear h hbd
    rintro ys bad ⟨A, n, c, h1, h2, h3, h4⟩ hyl
    have hc0 : w.cell? ⟨p, 0, none⟩ = some (.slice A n c) := h1.cell 0
    have hc1 : w.cell? ⟨p, 1, none⟩ = some (.bool bad) := h1.cell 1
    have hf0 := h1.frozen 0
    have hf1 := h1.frozen 1
    have hlt := h1.lt
    obtain ⟨m, hm⟩ : ∃ m, gB ys 4 = m := ⟨_, rfl⟩
    have hm32 : m < 4294967296 := by rw [← hm]; exact gB_lt _ 4
    have em : IntKind.i64.wrap (m : Int) = (m : Int) := IntWalk.i64_in _ (by omega)
    rw [h2] at hyl
    have H1 := Lib.hid h1
    have H2 := Lib.hid h2
    have H4 := Lib.hid h4
    have HM := Lib.hid hm
    clear h1 h2 h4 hm
    have hset : Chg (fun i => i = p) w (w.setCell ⟨p, 1, none⟩ (.bool true)) := chg_setCell (Chg.refl (fun i => i = p) w) (.inl rfl) _
    have hres : RdAt ok (w.setCell ⟨p, 1, none⟩ (.bool true)) p ys true := ⟨A, n, c, H1.out.set_ 1 _, H2.out, h3, H4.out.chg hset fun b _ hb => ⟨hb, fun e => hok (e ▸ hb)⟩⟩
    clear hset
    by_cases h1 : n < 4
    · have hd1 : decide ((n : Int) < 4) = true := by simp; omega
      have HBAD : Hid (ys.length < 4 ∨ gB ys 4 > most ∨ bad = true) := .inl (by rw [H2.out]; exact h1)
      go_enter Tryz.func43, Tryz.ntmps43
      go_wp2_with (first | (go_at_call 59; refine (GetBig32_n A c n ys _ ok H4.out H2.out).mono ?_; rintro e w1 ⟨rfl, rfl⟩; rw [HM.out]))
      go_ret
      unfold NumPost
      rw [if_pos HBAD.out]
      exact ⟨⟨rfl, hres⟩, grown_setCell (World.grownBy.refl _ _) (.inl rfl) _⟩
    · have hd1 : decide ((n : Int) < 4) = false := by simp; omega
      by_cases h2 : most < m
      · have hd2 : decide ((most : Int) < (m : Int)) = true := by simp; omega
        have HBAD : Hid (ys.length < 4 ∨ gB ys 4 > most ∨ bad = true) := .inr (.inl (by rw [HM.out]; exact h2))
        go_enter Tryz.func43, Tryz.ntmps43
        go_wp2_with (first | (go_at_call 59; refine (GetBig32_n A c n ys _ ok H4.out H2.out).mono ?_; rintro e w1 ⟨rfl, rfl⟩; rw [HM.out]))
        go_ret
        unfold NumPost
        rw [if_pos HBAD.out]
        exact ⟨⟨rfl, hres⟩, grown_setCell (World.grownBy.refl _ _) (.inl rfl) _⟩
      · have hd2 : decide ((most : Int) < (m : Int)) = false := by simp; omega
        rcases bad with _ | _
        · have HGOOD : Hid (¬ (ys.length < 4 ∨ gB ys 4 > most ∨ false = true)) := by
            show ¬ _
            rw [H2.out, HM.out]
            rintro (h | h | h)
            · omega
            · omega
            · cases h
          obtain ⟨ad, rfl⟩ : ∃ ad, A = some ad := by
            obtain ⟨ad, e, _⟩ := H4.out.2 (by rw [H2.out]; omega)
            exact ⟨ad, e⟩
          clear hres
          have i4 : (4 : Int) ≤ (n : Int) := by omega
          have i5 : (4 : Int) ≤ (c : Int) := by omega
          by_cases hc4 : c = 4
          · subst hc4
            go_enter Tryz.func43, Tryz.ntmps43
            go_wp2_with (first | (go_at_call 59; refine (GetBig32_n (some ad) 4 n ys _ ok H4.out H2.out).mono ?_; rintro e w1 ⟨rfl, rfl⟩; rw [HM.out]))
            go_ret
            unfold NumPost
            rw [if_neg HGOOD.out]
            refine ⟨⟨by rw [HM.out]; rfl, ?_⟩, grown_setCell (World.grownBy.refl _ _) (.inl rfl) _⟩
            have hz : ys.drop 4 = [] := List.drop_eq_nil_of_le (by rw [H2.out]; omega)
            rw [hz]
            exact ⟨some ad, 0, 0, H1.out.set_ 0 _, rfl, Nat.le_refl _, RowV.nil⟩
          · go_enter Tryz.func43, Tryz.ntmps43
            go_wp2_with (first | (go_at_call 59; refine (GetBig32_n (some ad) c n ys _ ok H4.out H2.out).mono ?_; rintro e w1 ⟨rfl, rfl⟩; rw [HM.out]))
            go_ret
            unfold NumPost
            rw [if_neg HGOOD.out]
            refine ⟨⟨by rw [HM.out]; rfl, ?_⟩, grown_setCell (World.grownBy.refl _ _) (.inl rfl) _⟩
            have hset : Chg (fun i => i = p) w (w.setCell ⟨p, 0, none⟩ (.slice (some ⟨ad.block, ad.off + 4, none⟩) (n - 4) (c - 4))) := chg_setCell (Chg.refl (fun i => i = p) w) (.inl rfl) _
            have hrow : RowV Kn.byte w ok (some ⟨ad.block, ad.off + 4, none⟩) (ys.drop 4) := H4.out.drop_at (k := 4) (by rw [H2.out]; omega)
            exact ⟨_, _, _, H1.out.set_ 0 _, by rw [List.length_drop, H2.out], by omega, hrow.chg hset fun b _ hb => ⟨hb, fun e => hok (e ▸ hb)⟩⟩
        · go_enter Tryz.func43, Tryz.ntmps43
          go_wp2_with (first | (go_at_call 59; refine (GetBig32_n A c n ys _ ok H4.out H2.out).mono ?_; rintro e w1 ⟨rfl, rfl⟩; rw [HM.out]))
          go_ret
          unfold NumPost
          rw [if_pos (show ys.length < 4 ∨ gB ys 4 > most ∨ true = true from .inr (.inr rfl))]
          exact ⟨⟨rfl, hres⟩, grown_setCell (World.grownBy.refl _ _) (.inl rfl) _⟩
  rcases st with _ | q
  · obtain ⟨ys, h1, h2⟩ := h
    refine (key ys true h2 (by omega)).mono ?_
    rintro e w' h9
    unfold NumPost at h9
    obtain ⟨h3, h4⟩ := h9
    rw [if_pos (.inr (.inr rfl))] at h3
    exact ⟨h3.1, ⟨ys, h1, h3.2⟩, h4⟩
  · refine (key (bd.drop q) false h.2 (by rw [List.length_drop]; omega)).mono ?_
    rintro e w' h9
    unfold NumPost at h9
    obtain ⟨h3, h4⟩ := h9
    have hq := h.1
    by_cases hb : q + 4 > bd.length ∨ gB (bd.drop q) 4 > most
    · rw [if_pos (by
        rw [List.length_drop]
        rcases hb with h | h
        · exact .inl (by omega)
        · exact .inr (.inl h))] at h3
      have e1 : num bd most (some q) = (0, none) := if_pos hb
      rw [e1]
      exact ⟨h3.1, ⟨_, by rw [List.length_drop]; omega, h3.2⟩, h4⟩
    · rw [if_neg (by
        rw [List.length_drop]
        simp
        omega)] at h3
      have e1 : num bd most (some q) = (gB (bd.drop q) 4, some (q + 4)) := if_neg hb
      rw [e1]
      rw [List.drop_drop] at h3
      exact ⟨h3.1, ⟨by omega, h3.2⟩, h4⟩

/-- 'row' of the reader -/
def RowPost (ok : Nat → Prop) (p : Nat) (bd : List UInt8) (st : Option Nat) (w : World) (e : Ending) (w' : World) : Prop :=
  ∃ v, e = .returned v ∧ w'.ownsRow w.heap.size 5 1 v (tkRow bd st).length (bts (tkRow bd st)) ∧ RdSt ok w' p bd (tkAt bd st) ∧ w.grownBy w' (some p)
theorem num_tk (bd : List UInt8) (q : Nat) (hq : q ≤ bd.length) : num bd (bd.length - q - 4) (some q) = ((tkRow bd (some q)).length, (tkAt bd (some q)).map fun z => z - (tkRow bd (some q)).length) ∧ (∀ z, tkAt bd (some q) = some z → (tkRow bd (some q)) = (bd.drop (q + 4)).take (tkRow bd (some q)).length ∧ z = q + 4 + (tkRow bd (some q)).length) := by
  by_cases h4 : q + 4 > bd.length
  · have e : tkO bd (some q) = none := by
      show tk bd q = none
      unfold tk
      rw [if_pos h4]
    have e1 : num bd (bd.length - q - 4) (some q) = (0, none) := if_pos (.inl h4)
    unfold tkRow tkAt
    rw [e, e1]
    simp
  · by_cases hm : gB (bd.drop q) 4 > bd.length - q - 4
    · have e : tkO bd (some q) = none := by
        show tk bd q = none
        unfold tk
        rw [if_neg h4, if_pos (by omega)]
      have e1 : num bd (bd.length - q - 4) (some q) = (0, none) := if_pos (.inr hm)
      unfold tkRow tkAt
      rw [e, e1]
      simp
    · have e : tkO bd (some q) = some ((bd.drop (q + 4)).take (gB (bd.drop q) 4), q + 4 + gB (bd.drop q) 4) := by
        show tk bd q = _
        unfold tk
        rw [if_neg h4, if_neg (by omega)]
      have e1 : num bd (bd.length - q - 4) (some q) = (gB (bd.drop q) 4, some (q + 4)) := if_neg (by
        rintro (h | h)
        · exact h4 h
        · exact hm h)
      have hl : ((bd.drop (q + 4)).take (gB (bd.drop q) 4)).length = gB (bd.drop q) 4 := by
        rw [List.length_take, List.length_drop]
        omega
      unfold tkRow tkAt
      rw [e, e1]
      simp only [Option.map_some, Option.getD_some, hl]
      refine ⟨by rw [show q + 4 + gB (bd.drop q) 4 - gB (bd.drop q) 4 = q + 4 by omega], ?_⟩
      intro z hz
      cases hz
      exact ⟨trivial, rfl⟩

theorem RdSt.open_ {ok : Nat → Prop} {w : World} {p : Nat} {bd : List UInt8} {st : Option Nat} (h : RdSt ok w p bd st) : ∃ A n c bad, Blk w p 60 #[.slice A n c, .bool bad] ∧ n ≤ c ∧ n ≤ bd.length ∧ (∀ q, st = some q → n = bd.length - q ∧ q ≤ bd.length) := by
  rcases st with _ | q
  · obtain ⟨ys, hy, A, n, c, h1, h2, h3, h4⟩ := h
    exact ⟨A, n, c, true, h1, h3, by omega, by simp⟩
  · obtain ⟨hq, A, n, c, h1, h2, h3, h4⟩ := h
    rw [List.length_drop] at h2
    refine ⟨A, n, c, false, h1, h3, by omega, ?_⟩
    rintro q' ⟨⟩
    exact ⟨h2.symm, hq⟩
theorem row_mid {ok : Nat → Prop} {w : World} {p : Nat} {bd : List UInt8} {st : Option Nat} {n : Nat} (hn : ∀ q, st = some q → n = bd.length - q ∧ q ≤ bd.length) (h : RdSt ok w p bd (num bd (n - 4) st).2) :
    ∃ k A1 n1 c1 bad1 ys1, (num bd (n - 4) st).1 = k ∧ Blk w p 60 #[.slice A1 n1 c1, .bool bad1] ∧ ys1.length = n1 ∧ n1 ≤ c1 ∧ RowV Kn.byte w ok A1 ys1 ∧ k ≤ n1 ∧ n1 ≤ bd.length ∧ tkRow bd st = ys1.take k ∧ (∀ w', RdAt ok w' p (ys1.drop k) bad1 → RdSt ok w' p bd (tkAt bd st)) := by
  rcases st with _ | q
  · obtain ⟨ys, hy, A, n, c, h1, h2, h3, h4⟩ := h
    refine ⟨0, A, n, c, true, ys, rfl, h1, h2, h3, h4, Nat.zero_le _, by omega, by simp [tkRow, tkO], fun w' h' => ⟨_, ?_, h'⟩⟩
    simpa using hy
  · obtain ⟨e, hq⟩ := hn q rfl
    subst e
    obtain ⟨e1, e2⟩ := num_tk bd q hq
    rw [e1] at h ⊢
    rcases hat : tkAt bd (some q) with _ | z
    · rw [hat] at h
      have hr : tkRow bd (some q) = [] := by
        unfold tkAt at hat
        unfold tkRow
        rcases ht : tkO bd (some q) with _ | t
        · rfl
        · rw [ht] at hat; simp at hat
      rw [hr]
      obtain ⟨ys, hy, A, n, c, h1, h2, h3, h4⟩ := h
      refine ⟨0, A, n, c, true, ys, rfl, h1, h2, h3, h4, Nat.zero_le _, by omega, by simp, fun w' h' => ⟨_, ?_, h'⟩⟩
      simpa using hy
    · obtain ⟨e3, e4⟩ := e2 z hat
      have hz := tkAt_le hat
      rw [hat] at h
      rw [Option.map_some, show z - (tkRow bd (some q)).length = q + 4 by omega] at h
      obtain ⟨hq4, A, n, c, h1, h2, h3, h4⟩ := h
      rw [List.length_drop] at h2
      refine ⟨(tkRow bd (some q)).length, A, n, c, false, bd.drop (q + 4), rfl, h1, by rw [List.length_drop]; exact h2, h3, h4, by omega, by omega, e3, fun w' h' => ⟨hz, ?_⟩⟩
      rw [List.drop_drop, ← e4] at h'
      exact h'

theorem row_map {w : World} {ok : Nat → Prop} {A : Option Addr} {xs : List UInt8} (h : RowV Kn.byte w ok A xs) {k : Nat} (hk : k ≤ xs.length) : RowV Kn.byte w ok (A.map fun x => x.add k) (xs.drop k) := by
  have := h.cut (c := k + 1 + xs.length) hk (by omega)
  rw [if_neg (by omega)] at this
  simpa [Kn.byte, Kn.scalar] using this
theorem row_zero {w : World} {ok : Nat → Prop} {A : Option Addr} {xs : List UInt8} (h : xs.length = 0) : RowV Kn.byte w ok A xs := by
  have : xs = [] := List.eq_nil_of_length_eq_zero h
  subst this
  exact RowV.nil
theorem row_end {ok : Nat → Prop} {p : Nat} {bd : List UInt8} {st : Option Nat} {w w1 w2 : World} {k n1 c1 c2 : Nat} {A1 A2 : Option Addr} {bad1 : Bool} {ys1 : List UInt8} (hok : ¬ ok p) (hk : k ≤ n1) (g3 : ys1.length = n1) (g8 : tkRow bd st = ys1.take k)
    (HO2 : OwnB w2 w1.heap.size A2 k c2 (ys1.take k)) (HD2 : Blk w2 p 60 #[.slice A1 n1 c1, .bool bad1]) (HB2 : Below w1.heap.size w1 w2) (h6 : w.grownBy w1 (some p)) (g9 : ∀ w', RdAt ok w' p (ys1.drop k) bad1 → RdSt ok w' p bd (tkAt bd st))
    (X : Option Addr) (cx : Nat) (hcx : n1 - k ≤ cx) (hrow : RowV Kn.byte w1 ok X (ys1.drop k)) :
    RowPost ok p bd st w (.returned (.slice A2 k c2)) (w2.setCell ⟨p, 0, none⟩ (.slice X (n1 - k) cx)) := by
  have hset : Chg (fun i => i = p) w2 (w2.setCell ⟨p, 0, none⟩ (.slice X (n1 - k) cx)) := chg_setCell (Chg.refl (fun i => i = p) w2) (.inl rfl) _
  refine ⟨_, rfl, ?_, g9 _ ⟨X, n1 - k, cx, HD2.set_ 0 _, by rw [List.length_drop, g3], hcx, ?_⟩, grown_setCell (grown_below h6 HB2) (.inl rfl) _⟩
  · rw [g8, HO2.len]
    exact own_chg (own_base HO2.own h6.size) hset (fun g hg e => own_blk_ne HO2.own HD2 (by decide) (by rw [hg, e]))
  · exact ((hrow.move fun b hb hlt => ⟨hb, HB2.block b hlt⟩ : RowV Kn.byte w2 ok X _)).chg hset fun b _ hb => ⟨hb, fun e => hok (e ▸ hb)⟩

set_option maxHeartbeats 1000000 in
theorem rrow2_any (ok : Nat → Prop) (p : Nat) (bd : List UInt8) (st : Option Nat) (w : World) (h : RdSt ok w p bd st) (hok : ¬ ok p) (hbd : bd.length < 1000000000) :
    Calls Tryz.prog 44 #[.pointer (some ⟨p, 0, none⟩)] w fun e w' => RowPost ok p bd st w e w' := by
  obtain ⟨A, n, c, bad, h1, h3, hnb, hn⟩ := h.open_
  have hc0 : w.cell? ⟨p, 0, none⟩ = some (.slice A n c) := h1.cell 0
  have HST := Lib.hid h
  have HN := Lib.hid hn
  clear h hn
  by_cases hn4 : n < 4
  · have hneg : (n : Int) - 4 < 0 := by omega
    have hw : IntKind.i64.wrap ((n : Int) - 4) = (n : Int) - 4 := IntWalk.i64_in _ (by omega)
    have hmo : n - 4 = 0 := by omega
    go_enter Tryz.func44, Tryz.ntmps44
    go_wp2_with fail
    refine (rnumber_any ok p bd st 0 w HST.out hok hbd (by omega)).mono ?_
    rintro e w1 ⟨rfl, h5, h6⟩
    have h5' : RdSt ok w1 p bd (num bd (n - 4) st).2 := by rw [hmo]; exact h5
    obtain ⟨k, A1, n1, c1, bad1, ys1, g1, g2, g3, g4, g5, g6, g7, g8, g9⟩ := row_mid HN.out h5'
    have hk1 : w1.cell? ⟨p, 0, none⟩ = some (.slice A1 n1 c1) := g2.cell 0
    have hf1 := g2.frozen 0
    have H6 := Lib.hid h6
    rw [hmo] at g1
    rw [g1]
    have j0 : (0 : Int) ≤ (k : Int) := by omega
    have j1 : (k : Int) ≤ (n1 : Int) := by omega
    have j2 : (k : Int) ≤ (c1 : Int) := by omega
    have HG2 := Lib.hid g2
    have HG3 := Lib.hid g3
    have HG5 := Lib.hid g5
    have HG8 := Lib.hid g8
    have HG9 := Lib.hid g9
    clear h5 h5' h6 g1 g2 g3 g5 g8 g9
    go_wp2_with (first
        | (go_at_call 60
           refine (clone_any A1 c1 k (ys1.take k) w1 ok (HG5.out.take k) (by rw [List.length_take, HG3.out]; omega) (by omega)).mono ?_
           rintro e w2 hN
           obtain ⟨A2, c2, rfl, h2, hb2⟩ := hN.out k (by rw [List.length_take, HG3.out]; omega)
           have hd2 := HG2.out.step hb2
           have hk2 : w2.cell? ⟨p, 0, none⟩ = some (.slice A1 n1 c1) := hd2.cell 0
           have hf2 := hd2.frozen 0
           have hl2 := hd2.lt
           have HO2 := Lib.hid h2
           have HD2 := Lib.hid hd2
           have HB2 := Lib.hid hb2
           clear hN h2 hb2 hd2))
    all_goals (
      go_ret
      first
        | exact row_end hok (by omega) HG3.out HG8.out HO2.out HD2.out HB2.out H6.out HG9.out (A1.map fun x => x.add k) (c1 - k) (by omega) (row_map HG5.out (by rw [HG3.out]; omega))
        | exact row_end hok (by omega) HG3.out HG8.out HO2.out HD2.out HB2.out H6.out HG9.out A1 0 (by omega) (row_zero (by rw [List.length_drop, HG3.out]; omega)))
  · obtain ⟨nq, rfl⟩ : ∃ nq, n = nq + 4 := ⟨n - 4, by omega⟩
    have hmo : nq + 4 - 4 = nq := by omega
    have hneg : 0 ≤ (nq : Int) + 4 - 4 := by omega
    have hneg2 : 0 ≤ (nq : Int) := by omega
    have hw : IntKind.i64.wrap ((nq : Int) + 4 - 4) = (nq : Int) := by rw [IntWalk.i64_in _ (by omega)]; omega
    have hw2 : IntKind.i64.wrap (nq : Int) = (nq : Int) := IntWalk.i64_in _ (by omega)
    go_enter Tryz.func44, Tryz.ntmps44
    go_wp2_with fail
    refine (rnumber_any ok p bd st nq w HST.out hok hbd (by omega)).mono ?_
    rintro e w1 ⟨rfl, h5, h6⟩
    have h5' : RdSt ok w1 p bd (num bd (nq + 4 - 4) st).2 := by rw [hmo]; exact h5
    obtain ⟨k, A1, n1, c1, bad1, ys1, g1, g2, g3, g4, g5, g6, g7, g8, g9⟩ := row_mid (n := nq + 4) HN.out h5'
    have hk1 : w1.cell? ⟨p, 0, none⟩ = some (.slice A1 n1 c1) := g2.cell 0
    have hf1 := g2.frozen 0
    have H6 := Lib.hid h6
    rw [hmo] at g1
    rw [g1]
    have j0 : (0 : Int) ≤ (k : Int) := by omega
    have j1 : (k : Int) ≤ (n1 : Int) := by omega
    have j2 : (k : Int) ≤ (c1 : Int) := by omega
    have HG2 := Lib.hid g2
    have HG3 := Lib.hid g3
    have HG5 := Lib.hid g5
    have HG8 := Lib.hid g8
    have HG9 := Lib.hid g9
    clear h5 h5' h6 g1 g2 g3 g5 g8 g9
    go_wp2_with (first
        | (go_at_call 60
           refine (clone_any A1 c1 k (ys1.take k) w1 ok (HG5.out.take k) (by rw [List.length_take, HG3.out]; omega) (by omega)).mono ?_
           rintro e w2 hN
           obtain ⟨A2, c2, rfl, h2, hb2⟩ := hN.out k (by rw [List.length_take, HG3.out]; omega)
           have hd2 := HG2.out.step hb2
           have hk2 : w2.cell? ⟨p, 0, none⟩ = some (.slice A1 n1 c1) := hd2.cell 0
           have hf2 := hd2.frozen 0
           have hl2 := hd2.lt
           have HO2 := Lib.hid h2
           have HD2 := Lib.hid hd2
           have HB2 := Lib.hid hb2
           clear hN h2 hb2 hd2))
    all_goals (
      go_ret
      first
        | exact row_end hok (by omega) HG3.out HG8.out HO2.out HD2.out HB2.out H6.out HG9.out (A1.map fun x => x.add k) (c1 - k) (by omega) (row_map HG5.out (by rw [HG3.out]; omega))
        | exact row_end hok (by omega) HG3.out HG8.out HO2.out HD2.out HB2.out H6.out HG9.out A1 0 (by omega) (row_zero (by rw [List.length_drop, HG3.out]; omega)))
end Go.Proofs.YtkenmpggblefiaaGreatDoor
