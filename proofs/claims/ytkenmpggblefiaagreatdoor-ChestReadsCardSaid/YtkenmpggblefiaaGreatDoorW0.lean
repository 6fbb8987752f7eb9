/- Words for memory: what values read as, which blocks that hangs on, rows that grow. -/
import Derived.Test.YtkenmpggblefiaaGreatDoorProg
import Derived.WalkKit
import Derived.WalkSpells
import Derived.WalkLawsBesides
import Derived.Lib.Hide
import Derived.BigQuiet
import Derived.Deep.QuietTactic
import Derived.Deep.LoopGhost
import Derived.Deep.Draws
import Derived.Deep.OwnRows
import Derived.Deep.AppendLies
import Derived.Maps.AppendAt
import Derived.Laws.Rows
import Derived.Lib.ConvBytes
import Derived.Lib.SlBytesConst
namespace Go.Proofs.YtkenmpggblefiaaGreatDoor
open Go.RowKit

/-! ### blocks -/
/-- block g is just these cells -/
def Blk (w : World) (g : Nat) (t : TypeId) (cs : Array Value) : Prop := w.heap[g]? = some (.cells cs t (0, 0))
section
variable {w w' : World} {g : Nat} {t : TypeId} {cs : Array Value}
theorem Blk.lt (h : Blk w g t cs) : g < w.heap.size := by
  rcases Nat.lt_or_ge g w.heap.size with hlt | hge
  · exact hlt
  · unfold Blk at h; rw [Array.getElem?_eq_none hge] at h; cases h
theorem Blk.cell (h : Blk w g t cs) (i : Nat) : w.cell? ⟨g, i, none⟩ = cs[i]? := cell_of_row w g i cs t (0, 0) h
theorem Blk.has (h : Blk w g t cs) (i : Nat) (hi : i < cs.size) : ∃ u, w.cell? ⟨g, i, none⟩ = some u := ⟨_, (h.cell i).trans (Array.getElem?_eq_getElem hi)⟩
theorem Blk.frozen (h : Blk w g t cs) (i : Nat) : w.frozen? ⟨g, i, none⟩ = false := by
  unfold Blk at h
  simp [World.frozen?, h]
theorem Blk.new (w : World) (t : TypeId) (cs : Array Value) : Blk (w.alloc (.cells cs t)) w.heap.size t cs := heap_alloc_new w _
theorem Blk.drew (h : Blk w g t cs) : Blk w.drew g t cs := h
theorem Blk.drewN (h : Blk w g t cs) (n : Nat) : Blk (w.drewN n) g t cs := h
theorem Blk.alloc (h : Blk w g t cs) (o : Obj) : Blk (w.alloc o) g t cs := (Below.heap_alloc w o g h.lt).trans h
theorem Blk.set_ (h : Blk w g t cs) (i : Nat) (u : Value) : Blk (w.setCell ⟨g, i, none⟩ u) g t (cs.setIfInBounds i u) := by
  unfold Blk at h ⊢
  simp [World.setCell, Array.getElem?_modify, h]
theorem Blk.far (h : Blk w g t cs) {p : Addr} (hp : g ≠ p.block) (u : Value) : Blk (w.setCell p u) g t cs := (Below.heap_setCell w p u g hp).trans h
theorem Blk.below {B : Nat} (h : Blk w g t cs) (hb : Below B w w') (hg : g < B) : Blk w' g t cs := (hb.block g hg).trans h
theorem Blk.step (h : Blk w g t cs) (hb : Below w.heap.size w w') : Blk w' g t cs := (hb.block g h.lt).trans h
theorem Blk.grown {row : Option Nat} (h : Blk w g t cs) (hb : w.grownBy w' row) (hg : some g ≠ row) : Blk w' g t cs := (hb.block g h.lt hg).trans h
theorem Blk.ne_ {g' : Nat} {t' : TypeId} {cs' : Array Value} (h : Blk w g t cs) (h' : Blk w g' t' cs') (hne : t ≠ t') : g ≠ g' := by
  rintro rfl
  unfold Blk at h h'
  rw [h] at h'
  injection h' with h'
  injection h' with _ ht
  exact hne ht
theorem own_blk_ne {base : Nat} {e : TypeId} {size n : Nat} {v : Value} {xs : List Value} (h : w.ownsRow base e size v n xs) (hg : Blk w g t cs) (hne : e ≠ t) : v.ownBlock ≠ some g := by
  rcases h.2 with ⟨rfl, _⟩ | ⟨g', cap, cur, rfl, _, hh, _⟩
  · simp [Value.ownBlock]
  · intro he
    have : g' = g := by simpa [Value.ownBlock] using he
    subst this
    exact Blk.ne_ (t := e) hh hg hne rfl
end

theorem block_of_add (a : Addr) (n : Nat) : (a.add n).block = a.block := by unfold Addr.add; split <;> rfl
theorem add_of_add (a : Addr) (i j : Nat) : (a.add i).add j = a.add (i + j) := by
  unfold Addr.add
  by_cases hi : i = 0 <;> by_cases hj : j = 0 <;> simp [hi, hj, Nat.add_assoc]
theorem add_plain (g o j : Nat) : (⟨g, o, none⟩ : Addr).add j = ⟨g, o + j, none⟩ := by
  unfold Addr.add
  by_cases h : j = 0 <;> simp [h]

theorem lt_of_cell {w : World} {a : Addr} {v : Value} (h : w.cell? a = some v) : a.block < w.heap.size := block_lt_of_cell h
theorem cell_of_same {w w' : World} {a : Addr} (h : w'.heap[a.block]? = w.heap[a.block]?) : w'.cell? a = w.cell? a := World.cell?_of_block h

theorem below_drewN {B : Nat} {a w : World} (h : Below B a w) (n : Nat) : Below B a (w.drewN n) := ⟨h.os, h.tape, h.output, h.size, h.block⟩
theorem below_step {B : Nat} {w w1 w2 : World} (h : Below B w w1) (hB : B ≤ w1.heap.size) (k : Below w1.heap.size w1 w2) : Below B w w2 :=
  h.trans ⟨k.os, k.tape, k.output, k.size, fun i hi => k.block i (Nat.lt_of_lt_of_le hi hB)⟩
theorem below_next {w w1 w2 : World} (h : Below w.heap.size w w1) (k : Below w1.heap.size w1 w2) : Below w.heap.size w w2 := below_step h h.size k

theorem below_setRow {B : Nat} {a w : World} (h : Below B a w) {g : Nat} (hg : B ≤ g) (cs : Array Value) : Below B a (w.setRow g cs) :=
  h.trans ⟨rfl, rfl, rfl, by simp [World.setRow], fun k hk => setRow_other w g k cs (by omega)⟩

/-! ### one block of the elder ones turns -/
theorem grown_drewN {a w : World} {row : Option Nat} (h : a.grownBy w row) (n : Nat) : a.grownBy (w.drewN n) row := ⟨h.os, h.tape, h.output, h.size, h.block⟩
theorem grown_drew {a w : World} {row : Option Nat} (h : a.grownBy w row) : a.grownBy w.drew row := ⟨h.os, h.tape, h.output, h.size, h.block⟩
theorem grown_alloc {a w : World} {row : Option Nat} (h : a.grownBy w row) (o : Obj) : a.grownBy (w.alloc o) row :=
  ⟨h.os, h.tape, h.output, Nat.le_trans h.size (by simp), fun i hi hne => (Below.heap_alloc w o i (Nat.lt_of_lt_of_le hi h.size)).trans (h.block i hi hne)⟩
theorem grown_setCell {a w : World} {g : Nat} (h : a.grownBy w (some g)) {p : Addr} (hp : p.block = g ∨ a.heap.size ≤ p.block) (u : Value) : a.grownBy (w.setCell p u) (some g) :=
  ⟨h.os, h.tape, h.output, by simpa [World.setCell] using h.size, fun i hi hne => (Below.heap_setCell w p u i (by
    rintro rfl
    rcases hp with hp | hp
    · exact hne (by rw [hp])
    · omega)).trans (h.block i hi hne)⟩
theorem grown_setRow {a w : World} {g : Nat} (h : a.grownBy w (some g)) {p : Nat} (hp : p = g ∨ a.heap.size ≤ p) (cs : Array Value) : a.grownBy (w.setRow p cs) (some g) :=
  ⟨h.os, h.tape, h.output, by simpa [World.setRow] using h.size, fun i hi hne => (setRow_other w p i cs (by
    rintro rfl
    rcases hp with hp | hp
    · exact hne (by rw [hp])
    · omega)).trans (h.block i hi hne)⟩
theorem grown_of_below {a w : World} (h : Below a.heap.size a w) (row : Option Nat) : a.grownBy w row := ⟨h.os, h.tape, h.output, h.size, fun i hi _ => h.block i hi⟩
theorem grown_below {a w w' : World} {row : Option Nat} (h : a.grownBy w row) (k : Below w.heap.size w w') : a.grownBy w' row :=
  ⟨k.os.trans h.os, k.tape.trans h.tape, k.output.trans h.output, Nat.le_trans h.size k.size, fun i hi hne => (k.block i (Nat.lt_of_lt_of_le hi h.size)).trans (h.block i hi hne)⟩
theorem grown_trans {a w w' : World} {row : Option Nat} (h : a.grownBy w row) (k : w.grownBy w' row) : a.grownBy w' row :=
  ⟨k.os.trans h.os, k.tape.trans h.tape, k.output.trans h.output, Nat.le_trans h.size k.size, fun i hi hne => (k.block i (Nat.lt_of_lt_of_le hi h.size) hne).trans (h.block i hi hne)⟩
/-- what is written is of the call's own -/
theorem below_of_grown {B : Nat} {a w w' : World} {g : Nat} (h : Below B a w) (k : w.grownBy w' (some g)) (hB : B ≤ w.heap.size) (hg : B ≤ g) : Below B a w' := h.grown k hB (fun x hx => by cases hx; exact hg)

/-! ### kinds: what a value's cells say; ok: the blocks on which that hangs -/
structure Kn (α : Type) where
  sz : Nat
  K : World → (Nat → Prop) → α → List Value → Prop
  len : ∀ {w ok x cs}, K w ok x cs → cs.length = sz
  one : ∀ {w ok x cs}, K w ok x cs → ∀ u ∈ cs, u.oneCell' = true
  move : ∀ {w w' : World} {ok ok' x cs}, (∀ b, ok b → b < w.heap.size → ok' b ∧ w'.heap[b]? = w.heap[b]?) → K w ok x cs → K w' ok' x cs

/-- a row of elements; n is its length -/
def RowV {α : Type} (d : Kn α) (w : World) (ok : Nat → Prop) (A : Option Addr) (xs : List α) : Prop :=
  xs.length ≤ 9223372036854775807 ∧ (0 < xs.length → ∃ ad, A = some ad ∧ ok ad.block ∧ ad.block < w.heap.size ∧
    ∀ j x, xs[j]? = some x → ∃ cs, d.K w ok x cs ∧ ∀ i u, cs[i]? = some u → w.cell? (ad.add (j * d.sz + i)) = some u)

theorem RowV.move {α : Type} {d : Kn α} {w w' : World} {ok ok' : Nat → Prop} {A : Option Addr} {xs : List α} (h : RowV d w ok A xs)
    (hm : ∀ b, ok b → b < w.heap.size → ok' b ∧ w'.heap[b]? = w.heap[b]?) : RowV d w' ok' A xs := by
  refine ⟨h.1, fun hn => ?_⟩
  obtain ⟨ad, e, ho, hlt, hc⟩ := h.2 hn
  obtain ⟨ho', hb⟩ := hm _ ho hlt
  have hlt' : ad.block < w'.heap.size := by
    rcases Nat.lt_or_ge ad.block w'.heap.size with h1 | h1
    · exact h1
    · rw [Array.getElem?_eq_none h1] at hb
      rw [Array.getElem?_eq_getElem hlt] at hb
      cases hb
  refine ⟨ad, e, ho', hlt', fun j x hj => ?_⟩
  obtain ⟨cs, hk, hcell⟩ := hc j x hj
  exact ⟨cs, d.move hm hk, fun i u hu => (cell_of_same (by rw [block_of_add]; exact hb)).trans (hcell i u hu)⟩

/-- a value that is a slice -/
def SlV {α : Type} (d : Kn α) (w : World) (ok : Nat → Prop) (v : Value) (xs : List α) : Prop :=
  ∃ A c, v = .slice A xs.length c ∧ xs.length ≤ c ∧ c ≤ maxLen ∧ RowV d w ok A xs

theorem SlV.move {α : Type} {d : Kn α} {w w' : World} {ok ok' : Nat → Prop} {v : Value} {xs : List α} (h : SlV d w ok v xs)
    (hm : ∀ b, ok b → b < w.heap.size → ok' b ∧ w'.heap[b]? = w.heap[b]?) : SlV d w' ok' v xs := by
  obtain ⟨A, c, h1, h2, h3, h4⟩ := h
  exact ⟨A, c, h1, h2, h3, h4.move hm⟩

namespace Kn
def scalar {α : Type} (enc : α → Value) (h1 : ∀ x, (enc x).oneCell' = true) : Kn α where
  sz := 1
  K := fun _ _ x cs => cs = [enc x]
  len := fun h => by rw [h]; rfl
  one := fun h u hu => by
    rw [h] at hu
    rw [List.mem_singleton.1 hu]
    exact h1 _
  move := fun _ h => h
def int (k : IntKind) : Kn Int := scalar (Value.int k) (fun _ => rfl)
def byte : Kn UInt8 := scalar (fun b => .int .u8 (b.toNat : Int)) (fun _ => rfl)
def bool : Kn Bool := scalar Value.bool (fun _ => rfl)
def str : Kn ByteArray := scalar Value.string (fun _ => rfl)
def sl {α : Type} (d : Kn α) : Kn (List α) where
  sz := 1
  K := fun w ok xs cs => ∃ v, cs = [v] ∧ SlV d w ok v xs
  len := by
    rintro w ok x cs ⟨v, rfl, _⟩
    rfl
  one := by
    rintro w ok x cs ⟨v, rfl, A, c, rfl, _⟩ u hu
    rw [List.mem_singleton.1 hu]
    rfl
  move := by
    rintro w w' ok ok' x cs hm ⟨v, rfl, h⟩
    exact ⟨v, rfl, h.move hm⟩
def pair {α β : Type} (a : Kn α) (b : Kn β) : Kn (α × β) where
  sz := a.sz + b.sz
  K := fun w ok x cs => ∃ c1 c2, cs = c1 ++ c2 ∧ a.K w ok x.1 c1 ∧ b.K w ok x.2 c2
  len := by
    rintro w ok x cs ⟨c1, c2, rfl, h1, h2⟩
    rw [List.length_append, a.len h1, b.len h2]
  one := by
    rintro w ok x cs ⟨c1, c2, rfl, h1, h2⟩ u hu
    rcases List.mem_append.1 hu with h | h
    · exact a.one h1 u h
    · exact b.one h2 u h
  move := by
    rintro w w' ok ok' x cs hm ⟨c1, c2, rfl, h1, h2⟩
    exact ⟨c1, c2, rfl, a.move hm h1, b.move hm h2⟩
def iso {α β : Type} (d : Kn α) (f : β → α) : Kn β where
  sz := d.sz
  K := fun w ok x cs => d.K w ok (f x) cs
  len := d.len
  one := d.one
  move := fun hm h => d.move hm h
end Kn

/-- the blocks of a world -/
def old (w : World) : Nat → Prop := fun b => b < w.heap.size
/-- the blocks from B on -/
def from_ (B : Nat) : Nat → Prop := fun b => B ≤ b

section
variable {α : Type} {d : Kn α} {w w' : World} {ok ok' : Nat → Prop} {v : Value} {A : Option Addr} {xs : List α}
theorem SlV.below (h : SlV d w ok v xs) (hb : Below w.heap.size w w') : SlV d w' ok v xs := h.move fun b ho hlt => ⟨ho, hb.block b hlt⟩
theorem SlV.mono (h : SlV d w ok v xs) (hm : ∀ b, ok b → b < w.heap.size → ok' b) : SlV d w ok' v xs := h.move fun b ho hlt => ⟨hm b ho hlt, rfl⟩
theorem RowV.below (h : RowV d w ok A xs) (hb : Below w.heap.size w w') : RowV d w' ok A xs := h.move fun b ho hlt => ⟨ho, hb.block b hlt⟩
theorem RowV.mono (h : RowV d w ok A xs) (hm : ∀ b, ok b → b < w.heap.size → ok' b) : RowV d w ok' A xs := h.move fun b ho hlt => ⟨hm b ho hlt, rfl⟩
/-- what hangs on blocks below B alone stays where these stay -/
theorem SlV.belowB {B : Nat} (h : SlV d w (fun b => b < B) v xs) (hb : Below B w w') : SlV d w' (fun b => b < B) v xs := h.move fun b ho _ => ⟨ho, hb.block b ho⟩
theorem RowV.belowB {B : Nat} (h : RowV d w (fun b => b < B) A xs) (hb : Below B w w') : RowV d w' (fun b => b < B) A xs := h.move fun b ho _ => ⟨ho, hb.block b ho⟩
theorem RowV.old_ (h : RowV d w (old w) A xs) (hb : Below w.heap.size w w') : RowV d w' (old w) A xs := h.move fun b ho hlt => ⟨ho, hb.block b hlt⟩
theorem SlV.old_ (h : SlV d w (old w) v xs) (hb : Below w.heap.size w w') : SlV d w' (old w) v xs := h.move fun b ho hlt => ⟨ho, hb.block b hlt⟩
theorem RowV.nil : RowV d w ok A ([] : List α) := ⟨by simp, fun h => absurd h (by simp)⟩
theorem SlV.nil : SlV d w ok (.slice none 0 0) ([] : List α) := ⟨none, 0, rfl, by simp, by simp [maxLen], RowV.nil⟩
/-- a cut -/
theorem RowV.cut (h : RowV d w ok A xs) {k c : Nat} (hk : k ≤ xs.length) (hc : xs.length ≤ c) :
    RowV d w ok (if c = k then A else A.map (·.add (k * d.sz))) (xs.drop k) := by
  refine ⟨by rw [List.length_drop]; have := h.1; omega, fun hn => ?_⟩
  rw [List.length_drop] at hn
  obtain ⟨ad, rfl, ho, hlt, hcell⟩ := h.2 (by omega)
  rw [if_neg (by omega)]
  refine ⟨ad.add (k * d.sz), rfl, by rw [block_of_add]; exact ho, by rw [block_of_add]; exact hlt, fun j x hj => ?_⟩
  rw [List.getElem?_drop] at hj
  obtain ⟨cs, hkk, hc2⟩ := hcell (k + j) x hj
  refine ⟨cs, hkk, fun i u hu => ?_⟩
  rw [add_of_add, show k * d.sz + (j * d.sz + i) = (k + j) * d.sz + i by rw [Nat.add_mul]; omega]
  exact hc2 i u hu
theorem RowV.take (h : RowV d w ok A xs) (k : Nat) : RowV d w ok A (xs.take k) := by
  refine ⟨by rw [List.length_take]; have := h.1; omega, fun hn => ?_⟩
  rw [List.length_take] at hn
  obtain ⟨ad, rfl, ho, hlt, hcell⟩ := h.2 (by omega)
  refine ⟨ad, rfl, ho, hlt, fun j x hj => hcell j x ?_⟩
  rw [List.getElem?_take] at hj
  split at hj
  · exact hj
  · cases hj
end

section
variable {α : Type} {d : Kn α} {w w' : World} {ok ok' : Nat → Prop} {v : Value} {A : Option Addr} {xs : List α}
theorem RowV.drop_at {ad : Addr} (h : RowV d w ok (some ad) xs) {k : Nat} (hk : k ≤ xs.length) : RowV d w ok (some (ad.add (k * d.sz))) (xs.drop k) := by
  have := h.cut (c := xs.length + k + 1) hk (by omega)
  rw [if_neg (by omega)] at this
  exact this
end

/-! ### rows of bytes and of numbers -/
/-- bytes as cells -/
def bts (xs : List UInt8) : List Value := xs.map fun b => .int .u8 (b.toNat : Int)
theorem bts_length (xs : List UInt8) : (bts xs).length = xs.length := by simp [bts]
theorem bts_append (xs ys : List UInt8) : bts (xs ++ ys) = bts xs ++ bts ys := by simp [bts]
theorem bts_get (xs : List UInt8) (j : Nat) : (bts xs)[j]? = (xs[j]?).map fun b => .int .u8 (b.toNat : Int) := by simp [bts]
theorem bts_one (xs : List UInt8) : ∀ u ∈ bts xs, u.oneCell' = true := by
  intro u hu
  obtain ⟨b, _, rfl⟩ := List.mem_map.1 hu
  rfl

/-- a slice of bytes -/
abbrev BytesV (w : World) (ok : Nat → Prop) (v : Value) (xs : List UInt8) : Prop := SlV Kn.byte w ok v xs

theorem row_byte_at {w : World} {ok : Nat → Prop} {A : Option Addr} {xs : List UInt8} (h : RowV Kn.byte w ok A xs) {j : Nat} (hj : j < xs.length) :
    ∃ ad, A = some ad ∧ ok ad.block ∧ w.cell? (ad.add j) = some (.int .u8 ((xs[j]).toNat : Int)) := by
  obtain ⟨ad, e, ho, _, hc⟩ := h.2 (by omega)
  obtain ⟨cs, hk, hcell⟩ := hc j _ (List.getElem?_eq_getElem hj)
  refine ⟨ad, e, ho, ?_⟩
  have hk' : cs = [.int .u8 ((xs[j]).toNat : Int)] := hk
  subst hk'
  have := hcell 0 _ rfl
  simpa [Kn.byte, Kn.scalar] using this

theorem row_byte_get {w : World} {ok : Nat → Prop} {A : Option Addr} {xs : List UInt8} (h : RowV Kn.byte w ok A xs) {j : Nat} (hj : j < xs.length) :
    ∃ ad b, A = some ad ∧ ok ad.block ∧ Hid (xs[j]? = some b) ∧ w.cell? (ad.add j) = some (.int .u8 (b.toNat : Int)) ∧ b.toNat < 256 := by
  obtain ⟨ad, e, ho, hc⟩ := row_byte_at h hj
  exact ⟨ad, _, e, ho, List.getElem?_eq_getElem hj, hc, UInt8.toNat_lt _⟩

theorem row_bytes_cells {w : World} {ok : Nat → Prop} {A : Option Addr} {xs : List UInt8} (h : RowV Kn.byte w ok A xs) :
    ∀ ad, A = some ad → ∀ j u, (bts xs)[j]? = some u → w.cell? (ad.add j) = some u := by
  intro ad e j u hu
  rw [bts_get] at hu
  have hj : j < xs.length := by
    rcases Nat.lt_or_ge j xs.length with h1 | h1
    · exact h1
    · rw [List.getElem?_eq_none h1] at hu; cases hu
  obtain ⟨ad', e', _, hc⟩ := row_byte_at h hj
  rw [e] at e'
  cases e'
  rw [List.getElem?_eq_getElem hj] at hu
  rw [hc]; exact hu

theorem RowV.of_bytes {w : World} {ok : Nat → Prop} {ad : Addr} {xs : List UInt8} (hl : xs.length ≤ 9223372036854775807) (ho : 0 < xs.length → ok ad.block)
    (h : ∀ j u, (bts xs)[j]? = some u → w.cell? (ad.add j) = some u) : RowV Kn.byte w ok (some ad) xs := by
  refine ⟨hl, fun hn => ⟨ad, rfl, ho hn, ?_, fun j x hj => ⟨_, rfl, fun i u hu => ?_⟩⟩⟩
  · have := h 0 _ (by rw [bts_get, List.getElem?_eq_getElem hn]; rfl)
    have := lt_of_cell this
    rwa [block_of_add] at this
  · have hi : i = 0 := by
      rcases Nat.eq_zero_or_pos i with e | e
      · exact e
      · rw [List.getElem?_eq_none (by simp; omega)] at hu; cases hu
    subst hi
    have hu' : Value.int .u8 (x.toNat : Int) = u := by simpa using hu
    subst hu'
    have := h j _ (by rw [bts_get, hj]; rfl)
    simpa [Kn.byte, Kn.scalar] using this

theorem bytesV_of_own {w : World} {base : Nat} {e : TypeId} {v : Value} {n : Nat} {xs : List UInt8} (h : w.ownsRow base e 1 v n (bts xs)) :
    n = xs.length ∧ BytesV w (fun b => base ≤ b ∧ some b = v.ownBlock) v xs := by
  have hl : n = xs.length := by have := h.1; rw [bts_length] at this; omega
  subst hl
  refine ⟨rfl, ?_⟩
  rcases h.2 with ⟨rfl, h0⟩ | ⟨g, cap, cur, rfl, hb, hh, h1, h2, _⟩
  · have : xs = [] := List.eq_nil_of_length_eq_zero h0
    subst this
    exact SlV.nil
  · refine ⟨_, cap, rfl, h1, h2, RowV.of_bytes (by simp only [maxLen] at h2; omega) (fun _ => ⟨hb, rfl⟩) (h.cells (g := g) rfl)⟩

/-! ### what grows -/
/-- a row that append may go on: of the call's own, or full -/
def Acc (w : World) (base : Nat) (e : TypeId) (size : Nat) (v : Value) (n : Nat) (xs : List Value) : Prop :=
  w.ownsRow base e size v n xs ∨ (xs.length = n * size ∧ n ≤ maxLen ∧ (∀ u ∈ xs, u.oneCell' = true) ∧ ∃ ad, v = .slice (some ad) n n ∧ base ≤ ad.block ∧ ∀ j u, xs[j]? = some u → w.cell? (ad.add j) = some u)

section
variable {P : Program} (w : World)
theorem run_append_acc (base : Nat) (t ty e : TypeId) (i : TypeInfo) (z : Value) (size bytes : Nat) (ht : P.underlying t = some (.slice e)) (hi : P.info? e = some i) (hz : i.zero = some z)
    (hsize : i.size = size) (hby : i.bytes = bytes) (hzs : z.cells.size = size) (hsz : 0 < size)
    (v : Value) (n : Nat) (xs : List Value) (hown : Acc w base e size v n xs)
    (A : Option Addr) (m c : Nat) (news : List Value) (hl : news.length = m * size) (hA : 0 < m → ∃ a, A = some a)
    (hnews : ∀ a, A = some a → ∀ j u, news[j]? = some u → w.cell? (a.add j) = some u) (h1 : ∀ u ∈ news, u.oneCell' = true)
    (h63 : n + m ≤ maxLen) (hbytes : (n + m) * bytes ≤ 140737488355328) (hbase : base ≤ w.heap.size) :
    ∃ v' w', (Builtin.append_ #[t, t] ty #[v, .slice A m c]).run P w = .ok v' w' ∧ Acc w' base e size v' (n + m) (xs ++ news) ∧ (0 < m → w'.ownsRow base e size v' (n + m) (xs ++ news)) ∧ w.grownBy w' v.ownBlock ∧
      (v'.ownBlock = v.ownBlock ∨ v'.ownBlock = some w.heap.size) ∧ (w.ownsRow base e size v n xs → w'.ownsRow base e size v' (n + m) (xs ++ news)) := by
  by_cases hm : m = 0
  · subst hm
    have hn : news = [] := List.eq_nil_of_length_eq_zero (by simpa using hl)
    subst hn
    have hr : (Builtin.append_ #[t, t] ty #[v, .slice A 0 c]).run P w = .ok v w := by
      rcases hown with hown | ⟨_, _, _, ad, rfl, _⟩
      · rcases hown.2 with ⟨rfl, rfl⟩ | ⟨g, cap, cur, rfl, _, _, hnc, _⟩
        · cases A <;> simp [Builtin.append_, run_underlying ht, sizeOf, typeInfo, hi, Builtin.lenOf, Builtin.firstCells, loadCells, loadCellsFrom]
        · cases A <;> simp [Builtin.append_, run_underlying ht, sizeOf, typeInfo, hi, Builtin.lenOf, Builtin.firstCells, hnc, storeCells, loadCells, loadCellsFrom]
      · cases A <;> simp [Builtin.append_, run_underlying ht, sizeOf, typeInfo, hi, Builtin.lenOf, Builtin.firstCells, storeCells, loadCells, loadCellsFrom]
    exact ⟨v, w, hr, by simpa using hown, fun h => absurd h (by omega), World.grownBy.refl w _, .inl rfl, fun h => by simpa using h⟩
  · obtain ⟨a, rfl⟩ := hA (by omega)
    rcases hown with hown | ⟨hxl, _, hx1, ad, rfl, hb, hx⟩
    · obtain ⟨v', w', hr, h2, h3, _, h5⟩ := run_append_own_at (P := P) w base t ty e i z size bytes ht hi hz hsize hby hzs hsz v n xs hown a m c news hl (hnews a rfl) h1 h63 hbytes hbase
      exact ⟨v', w', hr, .inl h2, fun _ => h2, h3, h5, fun _ => h2⟩
    · subst hsize
      subst hby
      have hsmall : n + m ≤ 9223372036854775807 := by simp only [maxLen] at h63; omega
      have hr := run_append_grow (P := P) w t ty e i z ht hi hz ad n n xs hxl hx a m c news hl (hnews a rfl) (by omega) (by omega) (growslice_fits (by omega) hbytes)
      have hge := grownCap_ge w (n + m) n e
      have hcm : grownCap w (n + m) n e ≤ maxLen := grownCap_le_maxLen w (n + m) n e h63
      have hlen : (xs ++ news).length = (n + m) * i.size := by rw [List.length_append, hxl, hl, Nat.add_mul]
      have hown' : (w.drew.alloc (.cells (xs.toArray ++ news.toArray ++ Builtin.zeroCells z.cells (grownCap w (n + m) n e - (n + m))) e)).ownsRow base e i.size
        (.slice (some ⟨w.heap.size, 0, none⟩) (n + m) (grownCap w (n + m) n e)) (n + m) (xs ++ news) := by
        refine ⟨hlen, .inr ⟨w.heap.size, _, _, rfl, hbase, heap_alloc_new w.drew _, hge, hcm, ?_, ?_⟩⟩
        · simp only [Array.size_append, List.size_toArray, size_zeroCells, hzs, hxl, hl, ← Nat.add_mul]
          congr 1
          omega
        · simp only [Array.toList_append, List.append_assoc]
          rw [← List.append_assoc, ← hlen]
          exact List.take_left
      exact ⟨_, _, hr, .inl hown', fun _ => hown', ⟨rfl, rfl, rfl, by simp, fun k hk _ => Below.heap_alloc w.drew _ k hk⟩, .inr rfl, fun _ => hown'⟩

theorem wpList_append_acc {ops : Array Oper} {rest : List Oper} {o : Oper} {a : Act} {Q : Exit → Act → World → Prop} (hgd : o.guard = none) (s x : Operand) (t : TypeId)
    (ho : o.op = .call { callee := .builtin .append, args := #[s, x], argTypes := #[t, t] })
    (base : Nat) (e : TypeId) (z : Value) (size bytes : Nat) (ht : P.underlying t = some (.slice e)) (hinfo : (P.info? e).map (fun i => (i.zero, i.size, i.bytes)) = some (some z, size, bytes)) (hzs : z.cells.size = size) (hsz : 0 < size)
    (v : Value) (n : Nat) (xs : List Value) (hs : a.eval s = v) (hown : Acc w base e size v n xs)
    (A : Option Addr) (m c : Nat) (news : List Value) (hx : a.eval x = .slice A m c) (hl : news.length = m * size) (hA : 0 < m → ∃ a, A = some a)
    (hnews : ∀ a, A = some a → ∀ j u, news[j]? = some u → w.cell? (a.add j) = some u) (h1 : ∀ u ∈ news, u.oneCell' = true)
    (h63 : n + m ≤ maxLen) (hbytes : (n + m) * bytes ≤ 140737488355328) (hbase : base ≤ w.heap.size)
    (h : ∀ v' w', Acc w' base e size v' (n + m) (xs ++ news) → (0 < m → w'.ownsRow base e size v' (n + m) (xs ++ news)) → w.grownBy w' v.ownBlock → (v'.ownBlock = v.ownBlock ∨ v'.ownBlock = some w.heap.size) → (w.ownsRow base e size v n xs → w'.ownsRow base e size v' (n + m) (xs ++ news)) → wpList P ops Q rest (a.put o.dst v') w') :
    wpList P ops Q (o :: rest) a w := by
  obtain ⟨i, hi, hz, hsize, hby⟩ := info_parts hinfo
  refine wpList_plain hgd fun K hK => ?_
  obtain ⟨v', w', hr, h2, h3, h4, h5, h6⟩ := run_append_acc (P := P) w base t o.type e i z size bytes ht hi hz hsize hby hzs hsz v n xs hown A m c news hl hA hnews h1 h63 hbytes hbase
  unfold Oper.wp execOp
  simp only [ho, resolve, invoke, builtin, Sem.run_bind, Sem.run_pure, Result.andThen_ok, List.map_toArray, List.map_cons, List.map_nil, hs, hx, hr]
  exact hK _ _ (h v' w' h2 h3 h4 h5 h6)
end


/-- append(v, y): the goal's world is that behind the variadic's box -/
theorem wpList_push {P : Program} {W w0 : World} {ops : Array Oper} {rest : List Oper} {o : Oper} {a : Act} {Q : Exit → Act → World → Prop} (hgd : o.guard = none) (s x : Operand) (t : TypeId)
    (ho : o.op = .call { callee := .builtin .append, args := #[s, x], argTypes := #[t, t] })
    (base : Nat) (e : TypeId) (z : Value) (bytes : Nat) (ht : P.underlying t = some (.slice e)) (hinfo : (P.info? e).map (fun i => (i.zero, i.size, i.bytes)) = some (some z, 1, bytes)) (hzs : z.cells.size = 1)
    (v : Value) (n : Nat) (xs : List Value) (y : Value) (hs : a.eval s = v) (hx : a.eval x = .slice (some ⟨W.heap.size, 0, none⟩) 1 1) (h1 : y.oneCell' = true)
    (hown : W.ownsRow base e 1 v n xs) (hb : Below base w0 W) (h63 : n + 1 ≤ maxLen) (hbytes : (n + 1) * bytes ≤ 140737488355328) (hbase : base ≤ W.heap.size)
    (h : ∀ v' w', w'.ownsRow base e 1 v' (n + 1) (xs ++ [y]) → Below base w0 w' → W.grownBy w' v.ownBlock → (v'.ownBlock = v.ownBlock ∨ ∃ b, v'.ownBlock = some b ∧ W.heap.size ≤ b) → wpList P ops Q rest (a.put o.dst v') w') :
    wpList P ops Q (o :: rest) a (W.alloc (.cells #[y] e)) := by
  refine wpList_append_acc (W.alloc (.cells #[y] e)) hgd s x t ho base e z 1 bytes ht hinfo hzs (by omega) v n xs hs (.inl (hown.alloc _)) (some ⟨W.heap.size, 0, none⟩) 1 1 [y] hx rfl (fun _ => ⟨_, rfl⟩) ?_ (by simpa using h1) h63 hbytes (by simp; omega) ?_
  · rintro a ⟨⟩ j u hu
    exact World.news_of_block (cs := #[y]) (t := e) (fr := (0, 0)) (heap_alloc_new W _) j u (by simpa using hu)
  · intro v' w' _ _ hg hat ho'
    refine h v' w' (ho' (hown.alloc _)) ((hb.alloc hbase _).grown hg (by simp; omega) (fun k hk => (hown.lt k hk).1)) (grown_trans (grown_alloc (World.grownBy.refl _ _) _) hg) ?_
    rcases hat with e | e
    · exact .inl e
    · exact .inr ⟨_, e, by simp⟩
end Go.Proofs.YtkenmpggblefiaaGreatDoor
