/- What is written is read as it was. -/
import Derived.Test.YtkenmpggblefiaaGreatDoorCG
namespace Go.Proofs.YtkenmpggblefiaaGreatDoor
open Go.RowKit

theorem gB_beB4 (v : Nat) (ys : List UInt8) (hv : v < 4294967296) : gB (beB v 4 ++ ys) 4 = v := by
  simp [gB, beB]
  omega
theorem tk_row {bd R t : List UInt8} {p : Nat} (h : bd.drop p = rowOf t ++ R) (hp : p ≤ bd.length) (ht : t.length < 4294967296) :
    tk bd p = some (t, p + 4 + t.length) ∧ bd.drop (p + 4 + t.length) = R ∧ p + 4 + t.length ≤ bd.length := by
  have hl : bd.length - p = 4 + t.length + R.length := by
    have := congrArg List.length h
    rw [List.length_drop, List.length_append, rowOf_length] at this
    exact this
  have hg : gB (bd.drop p) 4 = t.length := by
    rw [h, rowOf, List.append_assoc]
    exact gB_beB4 _ _ ht
  have hd : bd.drop (p + 4) = t ++ R := by
    rw [← List.drop_drop, h, rowOf, List.append_assoc]
    rw [List.drop_append_of_le_length (by rw [beB_length]; exact Nat.le_refl _), List.drop_of_length_le (by rw [beB_length]; exact Nat.le_refl _)]
    rfl
  refine ⟨?_, ?_, by omega⟩
  · unfold tk
    rw [if_neg (by omega), hg, if_neg (by omega), hd, List.take_left']
    rfl
  · rw [← List.drop_drop, hd, List.drop_left']
    rfl
theorem tkO_row {bd R t : List UInt8} {p : Nat} (h : bd.drop p = rowOf t ++ R) (hp : p ≤ bd.length) (ht : t.length < 4294967296) : tkRow bd (some p) = t ∧ tkAt bd (some p) = some (p + 4 + t.length) := by
  have e : tkO bd (some p) = some (t, p + 4 + t.length) := (tk_row h hp ht).1
  unfold tkRow tkAt
  rw [e]
  exact ⟨rfl, rfl⟩
theorem rowsOf_cons (t : List UInt8) (ls : List (List UInt8)) : rowsOf (t :: ls) = rowOf t ++ rowsOf ls := by simp [rowsOf]
theorem lys_rows {bd R : List UInt8} {ls : List (List UInt8)} {p : Nat} (h : bd.drop p = rowsOf ls ++ R) (hp : p ≤ bd.length) (ht : ∀ t ∈ ls, t.length < 4294967296) :
    ∀ j, j ≤ ls.length → ∃ q, lys bd p j = some (ls.take j, q) ∧ bd.drop q = rowsOf (ls.drop j) ++ R ∧ q ≤ bd.length
  | 0, _ => ⟨p, rfl, h, hp⟩
  | j + 1, hj => by
    obtain ⟨q, h1, h2, h3⟩ := lys_rows h hp ht j (by omega)
    have hx : ls.drop j = ls[j] :: ls.drop (j + 1) := List.drop_eq_getElem_cons (by omega)
    rw [hx, rowsOf_cons, List.append_assoc] at h2
    obtain ⟨h4, h5, h6⟩ := tk_row h2 h3 (ht _ (List.getElem_mem _))
    refine ⟨_, ?_, h5, h6⟩
    rw [lys, h1]
    have h4' : tkO bd (some q) = some (ls[j], q + 4 + ls[j].length) := h4
    show ((tkO bd (some q)).map fun t => (ls.take j ++ [t.1], t.2)) = _
    rw [h4', take_snoc (List.getElem?_eq_getElem (show j < ls.length by omega))]
    rfl
theorem chest_read {bd R : List UInt8} {x : Chest} {p : Nat} (h : bd.drop p = chestOf x ++ R) (hp : p ≤ bd.length) (h1 : x.tag.length < 4294967296) (h2 : x.text.length < 4294967296) (h3 : x.layers.length ≤ 64) (h4 : ∀ t ∈ x.layers, t.length < 4294967296) :
    ∃ q, tkChest bd p = some (x, q) ∧ bd.drop q = R ∧ q ≤ bd.length := by
  unfold chestOf at h
  simp only [List.append_assoc] at h
  obtain ⟨a1, a2⟩ := tkO_row h hp h1
  obtain ⟨-, a3, a4⟩ := tk_row h hp h1
  obtain ⟨b1, b2⟩ := tkO_row a3 a4 h2
  obtain ⟨-, b3, b4⟩ := tk_row a3 a4 h2
  generalize p + 4 + x.tag.length = p1 at *
  generalize p1 + 4 + x.text.length = p2 at *
  have hl : bd.length - p2 = 4 + ((rowsOf x.layers).length + R.length) := by
    have := congrArg List.length b3
    rw [List.length_drop, List.length_append, beB_length, List.length_append] at this
    exact this
  have hg : gB (bd.drop p2) 4 = x.layers.length := by
    rw [b3]
    exact gB_beB4 _ _ (by omega)
  have hd : bd.drop (p2 + 4) = rowsOf x.layers ++ R := by
    rw [← List.drop_drop, b3, List.drop_append_of_le_length (by rw [beB_length]; exact Nat.le_refl _), List.drop_of_length_le (by rw [beB_length]; exact Nat.le_refl _)]
    rfl
  obtain ⟨q, c1, c2, c3⟩ := lys_rows hd (by omega) h4 x.layers.length (Nat.le_refl _)
  rw [List.take_length] at c1
  rw [List.drop_length] at c2
  refine ⟨q, ?_, by simpa [rowsOf] using c2, c3⟩
  unfold tkChest
  rw [a2, b2]
  show (if p2 + 4 > bd.length then none else if gB (bd.drop p2) 4 > 64 then none else _) = _
  rw [if_neg (by omega), hg, if_neg (by omega), c1, a1, b1]
  rfl
theorem chestsOf_cons (x : Chest) (l : List Chest) : chestsOf (x :: l) = chestOf x ++ chestsOf l := by simp [chestsOf]
theorem chs_read {bd R : List UInt8} {l : List Chest} {p : Nat} (h : bd.drop p = chestsOf l ++ R) (hp : p ≤ bd.length) (hl : ∀ x ∈ l, x.tag.length < 4294967296 ∧ x.text.length < 4294967296 ∧ x.layers.length ≤ 64 ∧ ∀ t ∈ x.layers, t.length < 4294967296) :
    ∀ j, j ≤ l.length → ∃ q, chs bd p j = some (l.take j, q) ∧ bd.drop q = chestsOf (l.drop j) ++ R ∧ q ≤ bd.length
  | 0, _ => ⟨p, rfl, h, hp⟩
  | j + 1, hj => by
    obtain ⟨q, h1, h2, h3⟩ := chs_read h hp hl j (by omega)
    have hx : l.drop j = l[j] :: l.drop (j + 1) := List.drop_eq_getElem_cons (by omega)
    rw [hx, chestsOf_cons, List.append_assoc] at h2
    obtain ⟨k1, k2, k3, k4⟩ := hl _ (List.getElem_mem (show j < l.length by omega))
    obtain ⟨q', h4, h5, h6⟩ := chest_read h2 h3 k1 k2 k3 k4
    refine ⟨q', ?_, h5, h6⟩
    rw [chs, h1]
    show ((tkChest bd q).map fun t => (l.take j ++ [t.1], t.2)) = _
    rw [h4, take_snoc (List.getElem?_eq_getElem (show j < l.length by omega))]
    rfl
theorem totL_mem {ls : List (List UInt8)} {t : List UInt8} (h : t ∈ ls) : t.length ≤ totL ls := by
  induction ls with
  | nil => cases h
  | cons a ls ih =>
    simp only [totL, List.map_cons, List.sum_cons]
    rcases List.mem_cons.1 h with rfl | h
    · omega
    · have := ih h
      unfold totL at this
      omega
theorem tot_mem {l : List Chest} {x : Chest} (h : x ∈ l) : 1 + x.tag.length + x.text.length + totL x.layers ≤ tot l := by
  induction l with
  | nil => cases h
  | cons a l ih =>
    simp only [tot, List.map_cons, List.sum_cons]
    rcases List.mem_cons.1 h with rfl | h
    · omega
    · have := ih h
      unfold tot at this
      omega
theorem parse_body {l : List Chest} (hb : ¬ bigL l = true) (hT : tot l < 100000) : parse (bodyOf l) = some l := by
  unfold bigL at hb
  simp only [Bool.or_eq_true, decide_eq_true_eq, List.any_eq_true, not_or, not_exists, not_and] at hb
  obtain ⟨hb1, hb2⟩ := hb
  have hd4 : (bodyOf l).drop 4 = beB l.length 4 ++ chestsOf l := by
    unfold bodyOf
    rfl
  have hd8 : (bodyOf l).drop 8 = chestsOf l ++ [] := by
    rw [show 8 = 4 + 4 from rfl, ← List.drop_drop, hd4, List.drop_append_of_le_length (by rw [beB_length]; exact Nat.le_refl _), List.drop_of_length_le (by rw [beB_length]; exact Nat.le_refl _)]
    simp
  have hg : gB ((bodyOf l).drop 4) 4 = l.length := by
    rw [hd4]
    exact gB_beB4 _ _ (by omega)
  have hlen : (bodyOf l).length = 8 + (chestsOf l).length := by simp [bodyOf, beB_length]; omega
  obtain ⟨q, h1, h2, h3⟩ := chs_read hd8 (by omega) (fun x hx => by
    have h5 := tot_mem hx
    refine ⟨by omega, by omega, by have := hb2 x hx; omega, fun t ht => ?_⟩
    have := totL_mem ht
    omega) l.length (Nat.le_refl _)
  rw [List.take_length] at h1
  rw [List.drop_length] at h2
  have hq : q = (bodyOf l).length := by
    have := congrArg List.length h2
    rw [List.length_drop] at this
    simp [chestsOf] at this
    omega
  unfold parse
  rw [hg, if_neg (by omega), h1]
  simp [hq]

/-! ### digests -/
theorem dig_next (s : Cr) (xs : List UInt8) : (s.next xs).dig xs = s.dig xs := by
  rcases s with _ | ts
  · rfl
  · simp only [Cr.next, Cr.dig]
    split
    · rfl
    · rename_i h
      rw [List.idxOf_append, if_neg h, List.idxOf_eq_length h]
      simp
theorem read_back (s : Cr) {l : List Chest} (hb : ¬ bigL l = true) (hT : tot l < 100000) : fromOf (s.next (bodyOf l)) (wrOf s l) = (0, l) := by
  have hl : (wrOf s l).length = (bodyOf l).length + 32 := by simp [wrOf, Cr.dig_length]
  have hlen : (bodyOf l).length = 8 + (chestsOf l).length := by simp [bodyOf, beB_length]; omega
  have h1 : headBad (wrOf s l) = false := by
    unfold headBad
    rw [hl]
    have : (wrOf s l).take 4 = [79, 67, 72, 49] := rfl
    rw [this]
    simp
    omega
  have h2 : (wrOf s l).take ((wrOf s l).length - 32) = bodyOf l := by
    rw [hl, Nat.add_sub_cancel]
    exact List.take_left
  have h3 : (wrOf s l).drop ((wrOf s l).length - 32) = s.dig (bodyOf l) := by
    rw [hl, Nat.add_sub_cancel]
    exact List.drop_left
  unfold fromOf
  rw [h1, h2, h3, dig_next, parse_body hb hT]
  simp
end Go.Proofs.YtkenmpggblefiaaGreatDoor
