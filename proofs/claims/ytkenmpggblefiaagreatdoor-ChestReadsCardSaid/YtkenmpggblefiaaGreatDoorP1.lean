/- Plain: SHA-256's work, as both texts do it. -/
import Derived.Test.YtkenmpggblefiaaGreatDoorP0
namespace Go.Proofs.YtkenmpggblefiaaGreatDoor
open Go.RowKit

/-- numbers as cells -/
def n32 (xs : List Int) : List Value := xs.map fun x => .int .u32 x
theorem n32_length (xs : List Int) : (n32 xs).length = xs.length := by simp [n32]
theorem n32_get (xs : List Int) (j : Nat) : (n32 xs)[j]? = (xs[j]?).map fun x => .int .u32 x := by simp [n32]
theorem n32_set (xs : List Int) (j : Nat) (x : Int) : (n32 xs).toArray.setIfInBounds j (.int .u32 x) = (n32 (xs.set j x)).toArray := by simp [n32, List.map_set]

/-- a number turned left -/
def rl (x : Int) (s : Nat) : Int := Go.bits .or .u32 (x * 2 ^ s % 4294967296) (x / 2 ^ (32 - s))
def x32 (a b : Int) : Int := Go.bits .xor .u32 a b
def a32 (a b : Int) : Int := Go.bits .and .u32 a b

/-- the first words of a block -/
def sch0 (b : List UInt8) : Nat → List Int
  | 0 => []
  | k + 1 => sch0 b k ++ [(gB (b.drop (4 * k)) 4 : Int)]
theorem sch0_length (b : List UInt8) : ∀ k, (sch0 b k).length = k
  | 0 => rfl
  | k + 1 => by simp [sch0, sch0_length b k]
def wd (w : List Int) (i : Nat) : Int := w[i]?.getD 0
/-- the next word -/
def snext (w : List Int) (i : Nat) : Int :=
  (wd w (i - 16) + x32 (x32 (rl (wd w (i - 15)) 25) (rl (wd w (i - 15)) 14)) (wd w (i - 15) / 8) + wd w (i - 7)
    + x32 (x32 (rl (wd w (i - 2)) 15) (rl (wd w (i - 2)) 13)) (wd w (i - 2) / 1024)) % 4294967296
def sch1 (w : List Int) : Nat → List Int
  | 0 => w
  | k + 1 => sch1 w k ++ [snext (sch1 w k) (k + 16)]
theorem sch1_length (w : List Int) : ∀ k, (sch1 w k).length = w.length + k
  | 0 => rfl
  | k + 1 => by simp [sch1, sch1_length w k]; omega
def sch (b : List UInt8) : List Int := sch1 (sch0 b 16) 48
theorem sch_length (b : List UInt8) : (sch b).length = 64 := by simp [sch, sch1_length, sch0_length]

theorem put_word (w : List Int) (k : Nat) (x : Int) : (w ++ List.replicate (k + 1) 0).set w.length x = w ++ [x] ++ List.replicate k 0 := by
  rw [List.set_append_right _ _ (Nat.le_refl _)]
  simp [List.replicate_succ]
theorem wd_append (w z : List Int) (i : Nat) (h : i < w.length) : wd (w ++ z) i = wd w i := by
  unfold wd
  rw [List.getElem?_append_left h]

/-- a round on a state -/
def round1 (v : List Int) (ki wi : Int) : List Int :=
  let t := wd v 7 + x32 (x32 (rl (wd v 4) 26) (rl (wd v 4) 21)) (rl (wd v 4) 7) + x32 (a32 (wd v 4) (wd v 5)) (a32 (x32 4294967295 (wd v 4)) (wd v 6)) + ki + wi
  let u := x32 (x32 (rl (wd v 0) 30) (rl (wd v 0) 19)) (rl (wd v 0) 10) + x32 (x32 (a32 (wd v 0) (wd v 1)) (a32 (wd v 0) (wd v 2))) (a32 (wd v 1) (wd v 2))
  [(t + u) % 4294967296, wd v 0, wd v 1, wd v 2, (wd v 3 + t) % 4294967296, wd v 4, wd v 5, wd v 6]
def rounds (st ks ws : List Int) : Nat → List Int
  | 0 => st
  | k + 1 => round1 (rounds st ks ws k) (wd ks k) (wd ws k)
theorem rounds_length (st ks ws : List Int) (h : st.length = 8) : ∀ k, (rounds st ks ws k).length = 8
  | 0 => h
  | _ + 1 => rfl
/-- the first k numbers of a state have been added to -/
def addUp (st v : List Int) : Nat → List Int
  | 0 => st
  | k + 1 => (addUp st v k).set k ((wd st k + wd v k) % 4294967296)
theorem addUp_length (st v : List Int) : ∀ k, (addUp st v k).length = st.length
  | 0 => rfl
  | k + 1 => by simp [addUp, addUp_length st v k]
theorem addUp_get (st v : List Int) : ∀ k j, k ≤ j → wd (addUp st v k) j = wd st j
  | 0, _, _ => rfl
  | k + 1, j, h => by
    have := addUp_get st v k j (by omega)
    unfold wd at *
    simp only [addUp]
    rw [List.getElem?_set_ne (by omega)]
    exact this
/-- a block is worked -/
def work (st ks : List Int) (b : List UInt8) : List Int := addUp st (rounds st ks (sch b) 64) 8
theorem work_length (st ks : List Int) (b : List UInt8) : (work st ks b).length = st.length := addUp_length _ _ _

/-- the cells of a digest on its way -/
def hc (st ks : List Int) (wt : List UInt8) (many : Nat) (all : Int) : Array Value := (n32 st ++ (n32 ks ++ (bts wt ++ [Value.int .i64 (many : Int), Value.int .u64 all]))).toArray
section
variable {st ks : List Int} {wt : List UInt8} {many : Nat} {all : Int}
theorem hc_size (h1 : st.length = 8) (h2 : ks.length = 64) (h3 : wt.length = 64) : (hc st ks wt many all).size = 138 := by simp [hc, n32, bts, h1, h2, h3]
theorem hc_state (h1 : st.length = 8) {i : Nat} (hi : i < 8) : (hc st ks wt many all)[i]? = some (.int .u32 (wd st i)) := by
  simp only [hc, List.getElem?_toArray]
  rw [List.getElem?_append_left (by simp [n32]; omega), n32_get]
  simp [wd, List.getElem?_eq_getElem (by omega : i < st.length)]
theorem hc_k (h1 : st.length = 8) (h2 : ks.length = 64) {i : Nat} (hi : i < 64) : (hc st ks wt many all)[8 + i]? = some (.int .u32 (wd ks i)) := by
  simp only [hc, List.getElem?_toArray]
  rw [List.getElem?_append_right (by simp [n32]; omega), List.getElem?_append_left (by simp [n32]; omega), n32_get]
  simp only [n32_length, h1, Nat.add_sub_cancel_left]
  simp [wd, List.getElem?_eq_getElem (by omega : i < ks.length)]
theorem hc_wait (h1 : st.length = 8) (h2 : ks.length = 64) (h3 : wt.length = 64) {i : Nat} (hi : i < 64) : (hc st ks wt many all)[72 + i]? = some (.int .u8 ((wt[i]?.getD 0).toNat : Int)) := by
  simp only [hc, List.getElem?_toArray]
  rw [List.getElem?_append_right (by simp [n32]; omega), List.getElem?_append_right (by simp [n32]; omega), List.getElem?_append_left (by simp [n32, bts]; omega), bts_get]
  simp only [n32_length, h1, h2, show 72 + i - 8 - 64 = i by omega]
  simp [List.getElem?_eq_getElem (by omega : i < wt.length)]
theorem hc_many (h1 : st.length = 8) (h2 : ks.length = 64) (h3 : wt.length = 64) : (hc st ks wt many all)[136]? = some (.int .i64 (many : Int)) := by
  simp only [hc, List.getElem?_toArray]
  rw [List.getElem?_append_right (by simp [n32]; omega), List.getElem?_append_right (by simp [n32]; omega), List.getElem?_append_right (by simp [n32, bts]; omega)]
  simp [n32, bts, h1, h2, h3]
theorem hc_all (h1 : st.length = 8) (h2 : ks.length = 64) (h3 : wt.length = 64) : (hc st ks wt many all)[137]? = some (.int .u64 all) := by
  simp only [hc, List.getElem?_toArray]
  rw [List.getElem?_append_right (by simp [n32]; omega), List.getElem?_append_right (by simp [n32]; omega), List.getElem?_append_right (by simp [n32, bts]; omega)]
  simp [n32, bts, h1, h2, h3]
theorem hc_set_state (h1 : st.length = 8) {i : Nat} (hi : i < 8) (x : Int) : (hc st ks wt many all).setIfInBounds i (.int .u32 x) = hc (st.set i x) ks wt many all := by
  simp only [hc, List.setIfInBounds_toArray]
  rw [List.set_append_left _ _ (by simp [n32]; omega)]
  simp [n32, List.map_set]
theorem hc_set_many (h1 : st.length = 8) (h2 : ks.length = 64) (h3 : wt.length = 64) (m : Nat) : (hc st ks wt many all).setIfInBounds 136 (.int .i64 (m : Int)) = hc st ks wt m all := by
  simp only [hc, List.setIfInBounds_toArray]
  rw [List.set_append_right _ _ (by simp [n32]; omega), List.set_append_right _ _ (by simp [n32]; omega), List.set_append_right _ _ (by simp [n32, bts]; omega)]
  simp [n32, bts, h1, h2, h3]
theorem hc_set_all (h1 : st.length = 8) (h2 : ks.length = 64) (h3 : wt.length = 64) (x : Int) : (hc st ks wt many all).setIfInBounds 137 (.int .u64 x) = hc st ks wt many x := by
  simp only [hc, List.setIfInBounds_toArray]
  rw [List.set_append_right _ _ (by simp [n32]; omega), List.set_append_right _ _ (by simp [n32]; omega), List.set_append_right _ _ (by simp [n32, bts]; omega)]
  simp [n32, bts, h1, h2, h3]
end

/-- a digest on its way, but for how many bytes there were -/
structure HS where
  st : List Int
  wt : List UInt8
  many : Nat
/-- one more byte -/
def HS.feed (ks : List Int) (h : HS) (b : UInt8) : HS :=
  if h.many + 1 = 64 then ⟨work h.st ks (h.wt.set h.many b), h.wt.set h.many b, 0⟩ else ⟨h.st, h.wt.set h.many b, h.many + 1⟩
def HS.feeds (ks : List Int) (h : HS) (bs : List UInt8) : HS := bs.foldl (HS.feed ks) h
theorem HS.feeds_nil (ks : List Int) (h : HS) : h.feeds ks [] = h := rfl
theorem HS.feeds_append (ks : List Int) (h : HS) (xs ys : List UInt8) : h.feeds ks (xs ++ ys) = (h.feeds ks xs).feeds ks ys := by simp [HS.feeds]
/-- as it has to be -/
structure HS.Ok (h : HS) : Prop where
  st : h.st.length = 8
  wt : h.wt.length = 64
  many : h.many < 64
theorem HS.Ok.feed {h : HS} (ho : h.Ok) (ks : List Int) (b : UInt8) : (h.feed ks b).Ok := by
  have := ho.many
  unfold HS.feed
  split
  · exact ⟨by simp [work_length, ho.st], by simp [ho.wt], by simp⟩
  · exact ⟨ho.st, by simp [ho.wt], by simp; omega⟩
theorem HS.Ok.feeds {h : HS} (ho : h.Ok) (ks : List Int) : ∀ bs : List UInt8, (h.feeds ks bs).Ok := by
  intro bs
  induction bs generalizing h with
  | nil => exact ho
  | cons b bs ih => exact ih (ho.feed ks b)
/-- bytes laid over the waiting ones -/
def lay (wt : List UInt8) (m : Nat) (cs : List UInt8) : List UInt8 := wt.take m ++ (cs ++ wt.drop (m + cs.length))
theorem lay_length (wt : List UInt8) (m : Nat) (cs : List UInt8) (h : m + cs.length ≤ wt.length) : (lay wt m cs).length = wt.length := by simp [lay]; omega
theorem lay_nil (wt : List UInt8) (m : Nat) : lay wt m [] = wt := by simp [lay]
theorem lay_cons (wt : List UInt8) (m : Nat) (c : UInt8) (cs : List UInt8) (h : m + (cs.length + 1) ≤ wt.length) : lay wt m (c :: cs) = lay (wt.set m c) (m + 1) cs := by
  have hm : m < wt.length := by omega
  unfold lay
  rw [List.drop_set_of_lt (by omega), List.take_succ_eq_append_getElem (by simpa using hm), List.take_set]
  simp only [List.length_cons, List.getElem_set_self, List.append_assoc, List.cons_append, List.nil_append]
  rw [List.set_eq_of_length_le (by simp; omega), show m + (cs.length + 1) = m + 1 + cs.length by omega]
/-- many bytes at once, none of which is worked -/
theorem HS.feeds_lay (ks : List Int) : ∀ (cs : List UInt8) (h : HS), h.Ok → h.many + cs.length < 64 → h.feeds ks cs = ⟨h.st, lay h.wt h.many cs, h.many + cs.length⟩
  | [], h, _, _ => by rw [lay_nil]; rfl
  | c :: cs, h, ho, hl => by
    simp only [List.length_cons] at hl
    have hw := ho.wt
    have hf : h.feed ks c = ⟨h.st, h.wt.set h.many c, h.many + 1⟩ := by unfold HS.feed; rw [if_neg (by omega)]
    show (h.feed ks c).feeds ks cs = _
    have ho' := ho.feed ks c
    rw [hf] at ho' ⊢
    rw [HS.feeds_lay ks cs _ ho' (by simp; omega), lay_cons _ _ _ _ (by omega)]
    simp; omega
/-- a block is full -/
theorem HS.feeds_full (ks : List Int) (h : HS) (ho : h.Ok) (cs : List UInt8) (hl : h.many + cs.length = 64) : h.feeds ks cs = ⟨work h.st ks (lay h.wt h.many cs), lay h.wt h.many cs, 0⟩ := by
  have hm := ho.many
  have hw := ho.wt
  obtain ⟨ds, d, rfl⟩ : ∃ ds d, cs = ds ++ [d] := by
    rcases List.eq_nil_or_concat cs with rfl | ⟨ds, d, rfl⟩
    · simp at hl; omega
    · exact ⟨ds, d, by simp⟩
  simp only [List.length_append, List.length_singleton] at hl
  rw [HS.feeds_append, HS.feeds_lay ks ds h ho (by omega)]
  have e : (lay h.wt h.many ds).set (h.many + ds.length) d = lay h.wt h.many (ds ++ [d]) := by
    unfold lay
    rw [List.set_append_right _ _ (by simp; omega), List.set_append_right _ _ (by simp; omega)]
    simp only [List.length_take, hw, List.append_assoc]
    rw [show h.many + ds.length - min h.many 64 - ds.length = 0 by omega]
    have hd : h.wt.drop (h.many + ds.length) = h.wt[h.many + ds.length]'(by omega) :: h.wt.drop (h.many + ds.length + 1) := List.drop_eq_getElem_cons (by omega)
    simp
    rw [hd]
    show d :: _ = _
    rw [Nat.add_assoc]
  show (HS.feed ks ⟨h.st, lay h.wt h.many ds, h.many + ds.length⟩ d) = _
  unfold HS.feed
  simp only
  rw [if_pos (by omega), e]
theorem mid_take_drop {α : Type} (A B T cs : List α) (m k : Nat) (hk : m + k ≤ B.length) :
    (A ++ (B ++ T)).take (A.length + m) ++ (cs ++ (A ++ (B ++ T)).drop (A.length + m + k)) = A ++ ((B.take m ++ (cs ++ B.drop (m + k))) ++ T) := by
  rw [List.take_length_add_append, Nat.add_assoc, List.drop_length_add_append, List.take_append_of_le_length (by omega), List.drop_append_of_le_length (by omega)]
  simp
theorem hc_copy {st ks : List Int} {wt : List UInt8} {many : Nat} {all : Int} (h1 : st.length = 8) (h2 : ks.length = 64) (h3 : wt.length = 64) (m : Nat) (cs : List UInt8) (hl : m + cs.length ≤ 64) :
    ((hc st ks wt many all).toList.take (72 + m) ++ (bts cs ++ (hc st ks wt many all).toList.drop (72 + m + (bts cs).length))).toArray = hc st ks (lay wt m cs) many all := by
  have h := mid_take_drop (n32 st ++ n32 ks) (bts wt) [Value.int .i64 (many : Int), Value.int .u64 all] (bts cs) m (bts cs).length (by simp [bts]; omega)
  simp only [List.length_append, n32_length, h1, h2] at h
  simp only [hc, ← List.append_assoc] at h ⊢
  rw [h]
  simp [lay, bts, List.map_take, List.map_drop]
def kSha : List Int := [1116352408, 1899447441, 3049323471, 3921009573, 961987163, 1508970993, 2453635748, 2870763221, 3624381080, 310598401, 607225278, 1426881987, 1925078388, 2162078206, 2614888103, 3248222580, 3835390401, 4022224774, 264347078, 604807628, 770255983, 1249150122, 1555081692, 1996064986, 2554220882, 2821834349, 2952996808, 3210313671, 3336571891, 3584528711, 113926993, 338241895, 666307205, 773529912, 1294757372, 1396182291, 1695183700, 1986661051, 2177026350, 2456956037, 2730485921, 2820302411, 3259730800, 3345764771, 3516065817, 3600352804, 4094571909, 275423344, 430227734, 506948616, 659060556, 883997877, 958139571, 1322822218, 1537002063, 1747873779, 1955562222, 2024104815, 2227730452, 2361852424, 2428436474, 2756734187, 3204031479, 3329325298]
def hSha : List Int := [1779033703, 3144134277, 1013904242, 2773480762, 1359893119, 2600822924, 528734635, 1541459225]
theorem kSha_length : kSha.length = 64 := rfl
theorem hSha_length : hSha.length = 8 := rfl
/-- a digest begins -/
def hs0 : HS := ⟨hSha, List.replicate 64 0, 0⟩
theorem hs0_ok : hs0.Ok := ⟨rfl, rfl, by decide⟩

/-- numbers of 32 bits -/
def Rng (l : List Int) : Prop := ∀ i, 0 ≤ wd l i ∧ wd l i < 4294967296
theorem Rng.set {l : List Int} (h : Rng l) (k : Nat) (x : Int) : Rng (l.set k (x % 4294967296)) := by
  intro i
  unfold wd
  rw [List.getElem?_set]
  split
  · split
    · simp; omega
    · simp
  · exact h i
theorem Rng.addUp {l v : List Int} (h : Rng l) : ∀ k, Rng (addUp l v k)
  | 0 => h
  | k + 1 => (Rng.addUp h k).set k _
theorem Rng.feed {ks : List Int} {h : HS} (hr : Rng h.st) (b : UInt8) : Rng (h.feed ks b).st := by
  unfold HS.feed
  split
  · exact Rng.addUp hr 8
  · exact hr
theorem Rng.feeds {ks : List Int} : ∀ (bs : List UInt8) {h : HS}, Rng h.st → Rng (h.feeds ks bs).st
  | [], _, hr => hr
  | b :: bs, h, hr => Rng.feeds bs (hr.feed b)
theorem Rng_hSha : Rng hSha := by
  intro i
  rcases Nat.lt_or_ge i 8 with h | h
  · have : ∀ j : Fin 8, 0 ≤ wd hSha j.val ∧ wd hSha j.val < 4294967296 := by decide
    exact this ⟨i, h⟩
  · unfold wd
    rw [List.getElem?_eq_none (by rw [hSha_length]; exact h)]
    simp
/-- the last bytes but for the length -/
def shaPad (many : Nat) : List UInt8 := 0x80 :: List.replicate ((119 - many) % 64) 0
/-- numbers as bytes -/
def flat32 (l : List Int) : List UInt8 := l.flatMap fun x => beB x.toNat 4
def sumOf (h : HS) (all : Nat) : List UInt8 := flat32 ((h.feeds kSha (shaPad h.many)).feeds kSha (beB (8 * all % 18446744073709551616) 8)).st
def shaOf (xs : List UInt8) : List UInt8 := sumOf (hs0.feeds kSha xs) xs.length
theorem flat32_snoc (l : List Int) (x : Int) : flat32 (l ++ [x]) = flat32 l ++ beB x.toNat 4 := by simp [flat32]
theorem flat32_length (l : List Int) : (flat32 l).length = 4 * l.length := by
  induction l with
  | nil => rfl
  | cons x l ih => simp [flat32, beB_length] at ih ⊢; omega
theorem shaOf_length (xs : List UInt8) : (shaOf xs).length = 32 := by
  unfold shaOf sumOf
  rw [flat32_length, (((hs0_ok.feeds kSha xs).feeds kSha _).feeds kSha _).st]
theorem hc_one (st ks : List Int) (wt : List UInt8) (many : Nat) (all : Int) : (hc st ks wt many all).all (·.oneCell') = true := by
  simp only [hc, List.all_toArray, List.all_append, List.all_cons, List.all_nil, Bool.and_true, Bool.and_eq_true, List.all_eq_true]
  refine ⟨?_, ?_, ?_, rfl, rfl⟩
  · intro u hu; obtain ⟨b, _, rfl⟩ := List.mem_map.1 hu; rfl
  · intro u hu; obtain ⟨b, _, rfl⟩ := List.mem_map.1 hu; rfl
  · exact bts_one wt
end Go.Proofs.YtkenmpggblefiaaGreatDoor
