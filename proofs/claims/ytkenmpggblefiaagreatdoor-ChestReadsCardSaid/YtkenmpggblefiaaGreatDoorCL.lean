/- What the arguments read as: chests, bytes. -/
import Derived.Test.YtkenmpggblefiaaGreatDoorCK
import Derived.Deep.Slices
import Derived.Deep.Strs
import Derived.SizedLaws
import Derived.ProofKit
import Derived.OpenShut
namespace Go.Proofs.YtkenmpggblefiaaGreatDoor
open Go.RowKit Go.ChangeShapes

section
variable {H : Type} {enc : TypeId × Value → H} {W : World}
/-- the values of type t are of kind d, and within the bound Bd -/
def Opens {α : Type} (enc : TypeId × Value → H) (W : World) (d : Kn α) (t : TypeId) (Bd : α → Prop) : Prop :=
  ∀ (fuel : Nat) (cs : List Value) (x : DataW H × List MemPlace), DataW.trod enc Tryz.prog W 0 (fun _ => true) true fuel t cs = some x → (DataW.weights Tryz.prog t x.1).all (fun k => decide (k ≤ reachBytes)) = true → ∃ a, d.K W (old W) a cs ∧ Bd a
instance : Inhabited Chest := ⟨⟨[], [], []⟩⟩
theorem opens_byte : Opens enc W Kn.byte 5 (fun _ => True) := by
  intro fuel cs x h _
  obtain ⟨n, rfl, rfl, hw⟩ := DataW.trod_int Tryz.underlying5 h
  have hn : 0 ≤ n ∧ n ≤ 255 := by simpa [Lit.wf, IntKind.min, IntKind.max, IntKind.signed, IntKind.bits] using hw
  refine ⟨UInt8.ofNat n.toNat, ?_, trivial⟩
  show [Value.int .u8 n] = [Value.int .u8 (((UInt8.ofNat n.toNat).toNat : Nat) : Int)]
  rw [ofNat_toNat_mod]
  have : ((n.toNat % 256 : Nat) : Int) = n := by omega
  rw [this]
theorem weightsAll_mem {P : Program} {e : TypeId} {D : Nat → DataW H} {n : Nat} {p : Nat → Bool} (h : (DataW.weightsAll P e ((List.range n).map D)).all p = true) {i : Nat} (hi : i < n) : (DataW.weights P e (D i)).all p = true := by
  have key : ∀ (l : List (DataW H)) (d : DataW H), d ∈ l → (DataW.weightsAll P e l).all p = true → (DataW.weights P e d).all p = true := by
    intro l d hd
    induction l with
    | nil => cases hd
    | cons a l ih =>
      intro h
      simp only [DataW.weightsAll, List.all_append, Bool.and_eq_true] at h
      rcases List.mem_cons.1 hd with rfl | hd
      · exact h.1
      · exact ih hd h.2
  exact key _ _ (List.mem_map.2 ⟨i, List.mem_range.2 hi, rfl⟩) h
/-- a slice -/
theorem opens_row {α : Type} {d : Kn α} {t e : TypeId} {Bd : α → Prop} [Inhabited α] (ht : Tryz.prog.underlying t = some (.slice e)) (hd : Opens enc W d e Bd) (hsz : Tryz.prog.cellsOf e = d.sz) (h0 : 0 < d.sz)
    {fuel : Nat} {cs : List Value} {x : DataW H × List MemPlace} (h : DataW.trod enc Tryz.prog W 0 (fun _ => true) true fuel t cs = some x) (hw : (DataW.weights Tryz.prog t x.1).all (fun k => decide (k ≤ reachBytes)) = true) :
    ∃ v xs, cs = [v] ∧ SlV d W (old W) v xs ∧ (∀ a ∈ xs, Bd a) ∧ xs.length * Tryz.prog.bytesOf e ≤ reachBytes := by
  rcases Deep.open_slice ht h with ⟨rfl, rfl⟩ | ⟨a, len, cap, m, n, D, Pl, rfl, _, hl, hm, hmm, rfl, hx⟩
  · exact ⟨_, [], rfl, SlV.nil, by simp, by simp⟩
  · simp only [if_true] at hmm
    subst hmm
    have hall : ∀ i, i < len → ∃ y : α, ∃ cs', d.K W (old W) y cs' ∧ Bd y ∧ ∀ j u, cs'[j]? = some u → W.cell? ((a.add (i * d.sz)).add j) = some u := by
      intro i hi
      obtain ⟨cs', h1, h2⟩ := hx i (by omega)
      simp only [DataW.weights, ht, List.all_cons, List.all_append, Bool.and_eq_true] at hw
      obtain ⟨y, hk, hb⟩ := hd _ _ _ h2 (weightsAll_mem hw.2.1 hi)
      obtain ⟨_, hcl, hcell⟩ := World.cells?_some h1
      rw [hsz] at hcl hcell
      refine ⟨y, cs', hk, hb, fun j u hu => ?_⟩
      have hj : j < d.sz := by
        rcases Nat.lt_or_ge j cs'.length with h | h
        · omega
        · rw [List.getElem?_eq_none h] at hu; cases hu
      rw [hcell j hj, hu]
    obtain ⟨Y, hY⟩ := Deep.choose_lt hall
    have hlen : ((List.range len).map Y).length = len := by simp
    refine ⟨_, (List.range len).map Y, rfl, ⟨some a, m, by rw [hlen], by rw [hlen]; exact hl, hm, by rw [hlen]; simp only [maxLen] at hm; omega, fun hn => ?_⟩, ?_, ?_⟩
    · rw [hlen] at hn
      have hlt : a.block < W.heap.size := by
        obtain ⟨cs', hk, _, hc⟩ := hY 0 hn
        have hl' := d.len hk
        have := hc 0 _ (List.getElem?_eq_getElem (by omega : 0 < cs'.length))
        have := lt_of_cell this
        rwa [block_of_add, block_of_add] at this
      refine ⟨a, rfl, hlt, hlt, fun j y hj => ?_⟩
      have hjl : j < len := by
        rcases Nat.lt_or_ge j len with h | h
        · exact h
        · rw [List.getElem?_eq_none (by simp; exact h)] at hj; cases hj
      have hyj : Y j = y := by
        rw [List.getElem?_map, List.getElem?_range hjl] at hj
        simpa using hj
      obtain ⟨cs', hk, _, hc⟩ := hY j hjl
      rw [hyj] at hk
      refine ⟨cs', hk, fun i u hu => ?_⟩
      rw [← add_of_add]
      exact hc i u hu
    · intro y hy
      obtain ⟨i, hi, rfl⟩ := List.mem_map.1 hy
      obtain ⟨_, _, hb, _⟩ := hY i (List.mem_range.1 hi)
      exact hb
    · simp only [DataW.weights, ht, List.all_cons, Bool.and_eq_true, decide_eq_true_eq, List.length_map, List.length_range] at hw
      rw [hlen]
      refine Nat.le_trans (Nat.mul_le_mul_right _ ?_) hw.1
      omega
theorem opens_sl {α : Type} {d : Kn α} {t e : TypeId} {Bd : α → Prop} [Inhabited α] (ht : Tryz.prog.underlying t = some (.slice e)) (hd : Opens enc W d e Bd) (hsz : Tryz.prog.cellsOf e = d.sz) (h0 : 0 < d.sz) :
    Opens enc W (Kn.sl d) t (fun xs => (∀ a ∈ xs, Bd a) ∧ xs.length * Tryz.prog.bytesOf e ≤ reachBytes) := by
  intro fuel cs x h hw
  obtain ⟨v, xs, rfl, h1, h2, h3⟩ := opens_row ht hd hsz h0 h hw
  exact ⟨xs, ⟨v, rfl, h1⟩, h2, h3⟩
theorem cells_byte : Tryz.prog.cellsOf 5 = 1 := by kernel_rfl
theorem cells_bytes : Tryz.prog.cellsOf 33 = 1 := by kernel_rfl
theorem cells_rows : Tryz.prog.cellsOf 29 = 1 := by kernel_rfl
theorem cells_str : Tryz.prog.cellsOf 9 = 1 := by kernel_rfl
theorem cells_chest : Tryz.prog.cellsOf 49 = 3 := by kernel_rfl
theorem bytesOf_byte : Tryz.prog.bytesOf 5 = 1 := by kernel_rfl
theorem opens_bytes : Opens enc W (Kn.sl Kn.byte) 33 (fun xs => xs.length ≤ reachBytes) := by
  intro fuel cs x h hw
  obtain ⟨a, h1, _, h3⟩ := opens_sl (enc := enc) (W := W) Tryz.underlying33 opens_byte cells_byte (by decide) fuel cs x h hw
  rw [bytesOf_byte, Nat.mul_one] at h3
  exact ⟨a, h1, h3⟩
theorem opens_rows : Opens enc W (Kn.sl (Kn.sl Kn.byte)) 29 (fun ls => ∀ t ∈ ls, t.length ≤ reachBytes) := by
  intro fuel cs x h hw
  obtain ⟨a, h1, h2, _⟩ := opens_sl (enc := enc) (W := W) Tryz.underlying29 opens_bytes cells_bytes (by decide) fuel cs x h hw
  exact ⟨a, h1, h2⟩
/-- bytes out of a string -/
theorem bs_of (s : ByteArray) : bs s.data.toList = s := by
  cases s
  simp [bs]
theorem three {α : Type} {l : List α} (h : l.length = 3) : ∃ a b c, l = [a, b, c] := by
  rcases l with _ | ⟨a, _ | ⟨b, _ | ⟨c, _ | ⟨d, l⟩⟩⟩⟩
  · cases h
  · cases h
  · cases h
  · exact ⟨a, b, c, rfl⟩
  · simp at h
theorem opens_chest : Opens enc W kChest 49 (fun x => x.tag.length ≤ reachBytes ∧ x.text.length ≤ reachBytes ∧ ∀ t ∈ x.layers, t.length ≤ reachBytes) := by
  intro fuel cs x h hw
  obtain ⟨y0, y1, y2, n, rfl, hl, g0, g1, g2⟩ := Deep.trod_struct3 Tryz.underlying49 h
  rw [cells_chest] at hl
  obtain ⟨a, b, c, rfl⟩ := three hl
  have g0' : DataW.trod enc Tryz.prog W 0 (fun _ => true) true n 9 [a] = some y0 := by
    have := g0
    simp only [cells_str] at this
    exact this
  have g1' : DataW.trod enc Tryz.prog W 0 (fun _ => true) true n 33 [b] = some y1 := by
    have := g1
    simp only [cells_bytes] at this
    exact this
  have g2' : DataW.trod enc Tryz.prog W 0 (fun _ => true) true n 29 [c] = some y2 := by
    have := g2
    simp only [cells_rows] at this
    exact this
  have hw' : ((DataW.weights Tryz.prog 9 y0.1).all (fun k => decide (k ≤ reachBytes)) = true ∧ (DataW.weights Tryz.prog 33 y1.1).all (fun k => decide (k ≤ reachBytes)) = true ∧ (DataW.weights Tryz.prog 29 y2.1).all (fun k => decide (k ≤ reachBytes)) = true) := by
    simp only [DataW.weights, Tryz.underlying49, DataW.weightsEach, List.map_cons, List.map_nil, List.all_append, List.all_nil, Bool.and_eq_true, Bool.and_true] at hw
    exact hw
  clear g0 g1 g2 hw
  obtain ⟨s, e1, rfl, hs⟩ := DataW.trod_string Tryz.underlying9 g0'
  obtain ⟨xs, ⟨v1, e2, h1⟩, hb1⟩ := opens_bytes _ _ _ g1' hw'.2.1
  obtain ⟨ls, ⟨v2, e3, h2⟩, hb2⟩ := opens_rows _ _ _ g2' hw'.2.2
  cases e1
  cases e2
  cases e3
  refine ⟨⟨s.data.toList, xs, ls⟩, ⟨b, c, by rw [bs_of], ?_, h1, h2⟩, ?_, hb1, hb2⟩
  · show s.data.toList.length ≤ maxLen
    rw [Array.length_toList]
    exact hs
  · have := hw'.1
    simpa [DataW.weights] using this
/-- the argument l -/
theorem open_chests {fuel : Nat} {cs : List Value} {x : DataW H × List MemPlace} (h : DataW.trod enc Tryz.prog W 0 (fun _ => true) true fuel 22 cs = some x) (hw : (DataW.weights Tryz.prog 22 x.1).all (fun k => decide (k ≤ reachBytes)) = true) :
    ∃ A c l, cs = [.slice A l.length c] ∧ RowV kChest W (old W) A l ∧ Fits l := by
  obtain ⟨v, l, rfl, ⟨A, c, rfl, _, _, hr⟩, hb, _⟩ := opens_row (enc := enc) (W := W) (t := 22) Tryz.underlying22 opens_chest cells_chest (by decide) h hw
  refine ⟨A, c, l, rfl, hr, fun y hy => ?_⟩
  obtain ⟨h1, h2, h3⟩ := hb y hy
  simp only [reachBytes] at h1 h2 h3
  exact ⟨by omega, by omega, fun t ht => by have := h3 t ht; omega⟩
/-- the argument b -/
theorem open_byteRow {fuel : Nat} {cs : List Value} {x : DataW H × List MemPlace} (h : DataW.trod enc Tryz.prog W 0 (fun _ => true) true fuel 33 cs = some x) (hw : (DataW.weights Tryz.prog 33 x.1).all (fun k => decide (k ≤ reachBytes)) = true) :
    ∃ A c xs, cs = [.slice A xs.length c] ∧ xs.length ≤ c ∧ RowV Kn.byte W (old W) A xs := by
  obtain ⟨v, xs, rfl, ⟨A, c, rfl, h1, _, hr⟩, _, _⟩ := opens_row (enc := enc) (W := W) (t := 33) Tryz.underlying33 opens_byte cells_byte (by decide) h hw
  exact ⟨A, c, xs, rfl, h1, hr⟩
end
end Go.Proofs.YtkenmpggblefiaaGreatDoor
