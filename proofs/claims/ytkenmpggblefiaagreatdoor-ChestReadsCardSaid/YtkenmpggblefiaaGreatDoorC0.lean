/- Words for chests. -/
import Derived.Test.YtkenmpggblefiaaGreatDoorK2
namespace Go.Proofs.YtkenmpggblefiaaGreatDoor
open Go.RowKit

/-- a chest -/
structure Chest where
  tag : List UInt8
  text : List UInt8
  layers : List (List UInt8)
/-- the cells of a chest -/
def kChest : Kn Chest where
  sz := 3
  K := fun w ok x cs => ∃ v1 v2, cs = [.string (bs x.tag), v1, v2] ∧ x.tag.length ≤ maxLen ∧ SlV Kn.byte w ok v1 x.text ∧ SlV (Kn.sl Kn.byte) w ok v2 x.layers
  len := by
    rintro w ok x cs ⟨v1, v2, rfl, _⟩
    rfl
  one := by
    rintro w ok x cs ⟨v1, v2, rfl, _, ⟨A, c, rfl, _⟩, ⟨B, d, rfl, _⟩⟩ u hu
    simp at hu
    rcases hu with rfl | rfl | rfl <;> rfl
  move := by
    rintro w w' ok ok' x cs hm ⟨v1, v2, rfl, h0, h1, h2⟩
    exact ⟨v1, v2, rfl, h0, h1.move hm, h2.move hm⟩

/-- a row of rows, at a place -/
theorem row_rows_get {w : World} {ok : Nat → Prop} {A : Option Addr} {ls : List (List UInt8)} (h : RowV (Kn.sl Kn.byte) w ok A ls) {k : Nat} (hk : k < ls.length) :
    ∃ ad t B c, A = some ad ∧ ok ad.block ∧ Hid (ls[k]? = some t) ∧ w.cell? (ad.add k) = some (.slice B t.length c) ∧ t.length ≤ c ∧ c ≤ maxLen ∧ RowV Kn.byte w ok B t := by
  obtain ⟨ad, e, ho, _, hc⟩ := h.2 (by omega)
  obtain ⟨cs, ⟨v, rfl, B, c, rfl, h1, h2, h3⟩, hcell⟩ := hc k _ (List.getElem?_eq_getElem hk)
  have := hcell 0 _ rfl
  exact ⟨ad, _, B, c, e, ho, List.getElem?_eq_getElem hk, by simpa [Kn.sl] using this, h1, h2, h3⟩
/-- a row of chests, at a place -/
theorem row_chest_get {w : World} {ok : Nat → Prop} {A : Option Addr} {l : List Chest} (h : RowV kChest w ok A l) {k : Nat} (hk : k < l.length) :
    ∃ ad x B c D d, A = some ad ∧ ok ad.block ∧ Hid (l[k]? = some x) ∧ w.cell? (ad.add (k * 3)) = some (.string (bs x.tag)) ∧ x.tag.length ≤ maxLen ∧
      w.cell? (ad.add (k * 3 + 1)) = some (.slice B x.text.length c) ∧ x.text.length ≤ c ∧ c ≤ maxLen ∧ RowV Kn.byte w ok B x.text ∧
      w.cell? (ad.add (k * 3 + 2)) = some (.slice D x.layers.length d) ∧ x.layers.length ≤ d ∧ d ≤ maxLen ∧ RowV (Kn.sl Kn.byte) w ok D x.layers := by
  obtain ⟨ad, e, ho, _, hc⟩ := h.2 (by omega)
  obtain ⟨cs, ⟨v1, v2, rfl, h0, ⟨B, c, rfl, h1, h2, h3⟩, ⟨D, d, rfl, h4, h5, h6⟩⟩, hcell⟩ := hc k _ (List.getElem?_eq_getElem hk)
  exact ⟨ad, _, B, c, D, d, e, ho, List.getElem?_eq_getElem hk, hcell 0 _ rfl, h0, hcell 1 _ rfl, h1, h2, h3, hcell 2 _ rfl, h4, h5, h6⟩

/-! ### how much there is of chests -/
def totL (ls : List (List UInt8)) : Nat := (ls.map fun t => 1 + t.length).sum
def tot (l : List Chest) : Nat := (l.map fun x => 1 + x.tag.length + x.text.length + totL x.layers).sum
theorem totL_snoc (ls : List (List UInt8)) (t : List UInt8) : totL (ls ++ [t]) = totL ls + (1 + t.length) := by simp [totL]
theorem tot_snoc (l : List Chest) (x : Chest) : tot (l ++ [x]) = tot l + (1 + x.tag.length + x.text.length + totL x.layers) := by simp [tot]
theorem totL_append (a b : List (List UInt8)) : totL (a ++ b) = totL a + totL b := by simp [totL]
theorem tot_append (a b : List Chest) : tot (a ++ b) = tot a + tot b := by simp [tot]
theorem totL_len : ∀ ls : List (List UInt8), ls.length ≤ totL ls
  | [] => by simp
  | t :: ls => by
    have := totL_len ls
    simp [totL] at this ⊢
    omega
theorem totL_take_le (ls : List (List UInt8)) (k : Nat) : totL (ls.take k) ≤ totL ls := by
  have h := totL_append (ls.take k) (ls.drop k)
  rw [List.take_append_drop] at h
  omega
theorem tot_take_le (l : List Chest) (k : Nat) : tot (l.take k) ≤ tot l := by
  have h := tot_append (l.take k) (l.drop k)
  rw [List.take_append_drop] at h
  omega
end Go.Proofs.YtkenmpggblefiaaGreatDoor
