/- Plain: numbers as bytes. -/
import Derived.Test.YtkenmpggblefiaaGreatDoorW0
import Derived.Laws.BitsAllLaws
namespace Go.Proofs.YtkenmpggblefiaaGreatDoor
open Go.RowKit

/-- a number's n bytes, the greatest first -/
def beB (v : Nat) : Nat → List UInt8
  | 0 => []
  | k + 1 => UInt8.ofNat (v / 256 ^ k) :: beB v k
theorem beB_length (v : Nat) : ∀ n, (beB v n).length = n
  | 0 => rfl
  | n + 1 => by simp [beB, beB_length v n]
/-- the number of the first n bytes, the greatest first, those that there aren't being 0 -/
def gB (xs : List UInt8) : Nat → Nat
  | 0 => 0
  | k + 1 => gB xs k * 256 + (xs[k]?.getD 0).toNat
theorem gB_lt (xs : List UInt8) : ∀ n, gB xs n < 256 ^ n
  | 0 => by simp [gB]
  | n + 1 => by
    have h1 := gB_lt xs n
    have h2 := (xs[n]?.getD 0).toNat_lt
    simp only [gB, Nat.pow_succ]
    omega
/-- one more byte, as the loop reckons it -/
theorem or_byte (a b : Nat) (ha : a * 256 < 2 ^ 64) (hb : b < 256) : a * 256 ||| b = a * 256 + b := by
  rw [show a * 256 = a <<< 8 by rw [Nat.shiftLeft_eq], ← Nat.shiftLeft_add_eq_or_of_lt (by omega)]

theorem zeros_set (k : Nat) (ys : List UInt8) (b : UInt8) : (List.replicate (k + 1) 0 ++ ys).set k b = List.replicate k 0 ++ b :: ys := by
  rw [List.replicate_succ', List.append_assoc, List.set_append]
  simp

theorem bts_set (xs : List UInt8) (j : Nat) (b : UInt8) : (bts xs).set j (.int .u8 (b.toNat : Int)) = bts (xs.set j b) := by
  simp [bts, List.map_set]
theorem bts_set' (xs : List UInt8) (j : Nat) (b : UInt8) : (bts xs).toArray.setIfInBounds j (.int .u8 (b.toNat : Int)) = (bts (xs.set j b)).toArray := by
  rw [← bts_set]; simp
theorem ofNat_toNat_mod (n : Nat) : (UInt8.ofNat n).toNat = n % 256 := by simp
theorem gB_take (xs : List UInt8) (m : Nat) : ∀ n, n ≤ m → gB (xs.take m) n = gB xs n
  | 0, _ => rfl
  | n + 1, h => by
    simp only [gB]
    rw [gB_take xs m n (by omega), List.getElem?_take, if_pos (by omega)]
/-- a number's n bytes, the least first -/
def leB (v : Nat) : Nat → List UInt8
  | 0 => []
  | k + 1 => leB v k ++ [UInt8.ofNat (v / 256 ^ k)]
theorem leB_length (v : Nat) : ∀ n, (leB v n).length = n
  | 0 => rfl
  | n + 1 => by simp [leB, leB_length v n]
theorem leB_reverse (v : Nat) : ∀ n, (leB v n).reverse = beB v n
  | 0 => rfl
  | n + 1 => by simp [leB, beB, leB_reverse v n]
theorem byte_mod (v k : Nat) : ((v / 256 ^ k : Nat) : Int) % 256 = ((UInt8.ofNat (v / 256 ^ k)).toNat : Int) := by
  rw [ofNat_toNat_mod, Int.natCast_emod]; rfl
theorem bts_one1 (b : UInt8) : [Value.int .u8 (b.toNat : Int)] = bts [b] := rfl
theorem take_snoc {α : Type} {xs : List α} {k : Nat} {b : α} (h : xs[k]? = some b) : xs.take (k + 1) = xs.take k ++ [b] := by
  obtain ⟨hk, rfl⟩ := List.getElem?_eq_some_iff.1 h
  exact List.take_succ_eq_append_getElem hk
theorem take_snoc_rev {α : Type} {xs : List α} {j k : Nat} {b : α} (h : xs[j]? = some b) (hjk : j + 1 + k = xs.length) : xs.reverse.take (k + 1) = xs.reverse.take k ++ [b] := by
  refine take_snoc ?_
  rw [List.getElem?_reverse (by omega), show xs.length - 1 - k = j by omega]
  exact h
end Go.Proofs.YtkenmpggblefiaaGreatDoor
