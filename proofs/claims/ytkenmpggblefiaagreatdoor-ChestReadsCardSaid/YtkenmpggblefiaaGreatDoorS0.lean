/- The walks of package word. -/
import Derived.Test.YtkenmpggblefiaaGreatDoorP0
namespace Go.Proofs.YtkenmpggblefiaaGreatDoor
open Go.RowKit
theorem Tryz.info5 : (Tryz.prog.info? 5).map (fun i => (i.zero, i.size, i.bytes)) = some (some (.int .u8 0), 1, 1) := by kernel_rfl

theorem made_bytes (n : Nat) : madeCells #[Value.int .u8 0] n = (bts (List.replicate n 0)).toArray := by
  apply Array.ext'
  rw [toList_madeCells_one]
  simp [bts]

theorem run_make_bytes (n : Nat) (hn : n ≤ 281474976710656) (W : World) :
    (Instr.makeSlice 33 (.int .i64 (n : Int)) (.int .i64 (n : Int))).run Tryz.prog W = .ok (.slice (some ⟨W.heap.size, 0, none⟩) n n) (W.alloc (.cells (bts (List.replicate n 0)).toArray 5)) := by

  rw [← made_bytes]
  exact run_make_row' 33 5 (.int .u8 0) 1 Tryz.underlying33 Tryz.info5 rfl .i64 .i64 n (by omega) (by omega) W

theorem own_of_blk {w : World} {g base : Nat} {e : TypeId} {xs : List Value} {n : Nat} (h : Blk w g e xs.toArray) (hb : base ≤ g) (hl : xs.length = n) (hn : n ≤ maxLen) :
    w.ownsRow base e 1 (.slice (some ⟨g, 0, none⟩) n n) n xs :=
  ⟨by omega, .inr ⟨g, n, xs.toArray, rfl, hb, h, Nat.le_refl _, hn, by simp; omega, by simp; rw [List.take_of_length_le (by omega)]⟩⟩

theorem byte_shift (v k : Nat) : (v : Int) / 2 ^ (8 * k) % 256 = ((UInt8.ofNat (v / 256 ^ k)).toNat : Int) := by
  rw [ofNat_toNat_mod, show (256 : Nat) ^ k = 2 ^ (8 * k) by rw [Nat.pow_mul]]
  rw [Int.natCast_emod, Int.natCast_ediv, Int.natCast_pow]
  rfl

set_option maxHeartbeats 400000 in
theorem big_any (v n : Nat) (w : World) (hv : v < 18446744073709551616) (hn : n ≤ 8) :
    Calls Tryz.prog 90 #[.int .u64 v, .int .i64 n] w fun e w' => ∃ x, e = .returned x ∧ w'.ownsRow w.heap.size 5 1 x n (bts (beB v n)) ∧ Below w.heap.size w w' := by
  have hmk := run_make_bytes n (by omega)
  go_enter Tryz.func90, Tryz.ntmps90
  go_wp2
  clear hmk
  go_loopw [6, 10] (fun _ i wr => ∃ k : Nat, k ≤ n ∧ i = .int .i64 k ∧ Blk wr w.heap.size 5 (bts (List.replicate (n - k) 0 ++ beB v k)).toArray ∧ Below w.heap.size w wr) (fun _ i _ => n - (intOf i).toNat)
  case atStart => exact ⟨0, Nat.zero_le _, rfl, by simpa [beB] using Blk.new w _ _, (Below.refl _ _).alloc (Nat.le_refl _) _⟩
  case round =>
    obtain ⟨k, hk, rfl, hB, hb⟩ := hrel
    by_cases hlt : k < n
    · obtain ⟨u, hu⟩ := hB.has (n - 1 - k) (by simp [bts, beB_length]; omega)
      have hfr := hB.frozen (n - 1 - k)
      go_wp2
      go_roundw
      case rel =>
        refine ⟨k + 1, by omega, by go_num, ?_, hb.setCell (Nat.le_refl _) _⟩
        have h1 := hB.set_ (n - 1 - k) (Value.int IntKind.u8 (↑v / 2 ^ (8 * k) % 256))
        rw [byte_shift, bts_set', show n - k = (n - (k + 1)) + 1 by omega, show n - 1 - k = n - (k + 1) by omega, zeros_set] at h1
        rw [byte_shift, show n - 1 - k = n - (k + 1) by omega]
        exact h1
      case measure => simp [intOf]; omega
    · go_wp2
      go_ret
      have : n = k := by omega
      subst this
      exact ⟨_, rfl, own_of_blk (by simpa using hB) (Nat.le_refl _) (by simp [bts, beB_length]) (by simp only [maxLen]; omega), hb⟩

set_option maxHeartbeats 400000 in
theorem Big32_any (v : Nat) (w : World) (hv : v < 4294967296) :
    Calls Tryz.prog 58 #[.int .u32 v] w fun e w' => ∃ x, e = .returned x ∧ w'.ownsRow w.heap.size 5 1 x 4 (bts (beB v 4)) ∧ Below w.heap.size w w' := by
  go_enter Tryz.func58, Tryz.ntmps58
  go_wp2_with (go_at_call 90; refine (big_any v 4 _ (by omega) (by omega)).mono ?_; rintro e w' ⟨x, rfl, hx, hb⟩)
  go_ret
  exact ⟨x, rfl, hx, hb⟩

set_option maxHeartbeats 400000 in
theorem Big64_any (v : Nat) (w : World) (hv : v < 18446744073709551616) :
    Calls Tryz.prog 222 #[.int .u64 v] w fun e w' => ∃ x, e = .returned x ∧ w'.ownsRow w.heap.size 5 1 x 8 (bts (beB v 8)) ∧ Below w.heap.size w w' := by
  go_enter Tryz.func222, Tryz.ntmps222
  go_wp2_with (go_at_call 90; refine (big_any v 8 _ hv (by omega)).mono ?_; rintro e w' ⟨x, rfl, hx, hb⟩)
  go_ret
  exact ⟨x, rfl, hx, hb⟩

set_option maxHeartbeats 400000 in
theorem at_any (A : Option Addr) (c : Nat) (xs : List UInt8) (i : Nat) (w : World) (ok : Nat → Prop) (h : RowV Kn.byte w ok A xs) :
    Calls Tryz.prog 117 #[.slice A xs.length c, .int .i64 i] w fun e w' => e = .returned (.int .u64 (((xs[i]?.getD 0).toNat : Nat) : Int)) ∧ w = w' := by
  have hl := h.1
  by_cases hi : i < xs.length
  · obtain ⟨ad, rfl, ho, hc⟩ := row_byte_at h hi
    have hlt : (xs[i]).toNat < 256 := (xs[i]).toNat_lt
    have hg : xs[i]?.getD 0 = xs[i] := by simp [List.getElem?_eq_getElem hi]
    rw [hg]
    clear hg h
    go_enter Tryz.func117, Tryz.ntmps117
    go_wp2
    go_ret
    exact ⟨rfl, rfl⟩
  · have hg : xs[i]?.getD 0 = 0 := by simp [List.getElem?_eq_none (by omega : xs.length ≤ i)]
    rw [hg]
    clear hg h
    go_enter Tryz.func117, Tryz.ntmps117
    go_wp2
    go_ret
    exact ⟨rfl, rfl⟩

theorem gB_step (xs : List UInt8) (k : Nat) (hk : k < 8) : Go.bits .or .u64 ((gB xs k : Int) * 256) ((xs[k]?.getD 0).toNat : Int) = (gB xs (k + 1) : Int) := by
  have h1 := gB_lt xs k
  have h2 : (xs[k]?.getD 0).toNat < 256 := (xs[k]?.getD 0).toNat_lt
  have h3 : 256 ^ k ≤ 256 ^ 7 := Nat.pow_le_pow_right (by omega) (by omega)
  have h4 : gB xs k * 256 < 2 ^ 64 := by omega
  have h5 := or_byte (gB xs k) _ h4 h2
  have h6 := u64_or_nat (gB xs k * 256) (xs[k]?.getD 0).toNat (by omega) (by omega)
  rw [h5] at h6
  simp only [gB]
  rw [← h6]
  simp

set_option maxHeartbeats 400000 in
theorem getBig_any (A : Option Addr) (c : Nat) (xs : List UInt8) (n : Nat) (w : World) (ok : Nat → Prop) (h : RowV Kn.byte w ok A xs) (hn : n ≤ 8) :
    Calls Tryz.prog 91 #[.slice A xs.length c, .int .i64 n] w fun e w' => e = .returned (.int .u64 ((gB xs n : Nat) : Int)) ∧ w = w' := by
  go_enter Tryz.func91, Tryz.ntmps91
  go_wp2
  go_loop [5, 6, 8] (fun v _ i => ∃ k : Nat, k ≤ n ∧ i = .int .i64 k ∧ v = .int .u64 ((gB xs k : Nat) : Int)) (fun _ _ i => n - (intOf i).toNat)
  case atStart => exact ⟨0, Nat.zero_le _, rfl, rfl⟩
  case round =>
    obtain ⟨k, hk, rfl, rfl⟩ := hrel
    by_cases hlt : k < n
    · have h1 := gB_lt xs k
      have h3 : 256 ^ k ≤ 256 ^ 7 := Nat.pow_le_pow_right (by omega) (by omega)
      have h4 : gB xs k < 72057594037927936 := by omega
      clear h1 h3
      go_wp2_with (go_at_call 117; refine (at_any A c xs k _ ok h).mono ?_; rintro e w' ⟨rfl, rfl⟩)
      go_round
      case rel => exact ⟨k + 1, by omega, by go_num, congrArg (Value.int .u64) (gB_step xs k (by omega))⟩
      case measure => simp [intOf]; omega
    · go_wp2
      go_ret
      have : n = k := by omega
      subst this
      exact ⟨rfl, rfl⟩

set_option maxHeartbeats 400000 in
theorem GetBig32_any (A : Option Addr) (c : Nat) (xs : List UInt8) (w : World) (ok : Nat → Prop) (h : RowV Kn.byte w ok A xs) :
    Calls Tryz.prog 59 #[.slice A xs.length c] w fun e w' => e = .returned (.int .u32 ((gB xs 4 : Nat) : Int)) ∧ w = w' := by
  have h1 := gB_lt xs 4
  have h4 : gB xs 4 < 4294967296 := by omega
  clear h1
  go_enter Tryz.func59, Tryz.ntmps59
  go_wp2_with (go_at_call 91; refine (getBig_any A c xs 4 _ ok h (by omega)).mono ?_; rintro e w' ⟨rfl, rfl⟩)
  go_ret
  exact ⟨rfl, rfl⟩

/-- the bits in which bytes differ -/
def dif (xs ys : List UInt8) : Nat → Nat
  | 0 => 0
  | k + 1 => dif xs ys k ||| ((xs[k]?.getD 0).toNat ^^^ (ys[k]?.getD 0).toNat)
theorem dif_lt (xs ys : List UInt8) : ∀ n, dif xs ys n < 256
  | 0 => by simp [dif]
  | n + 1 => Nat.or_lt_two_pow (n := 8) (dif_lt xs ys n) (Nat.xor_lt_two_pow (n := 8) (UInt8.toNat_lt _) (UInt8.toNat_lt _))
theorem or_zero_iff (a b : Nat) : a ||| b = 0 ↔ a = 0 ∧ b = 0 := by
  constructor
  · intro h
    constructor <;> apply Nat.eq_of_testBit_eq <;> intro i
    · have := congrArg (fun x => x.testBit i) h
      simp at this
      simp [this]
    · have := congrArg (fun x => x.testBit i) h
      simp at this
      simp [this]
  · rintro ⟨rfl, rfl⟩
    rfl
theorem xor_zero_iff (a b : Nat) : a ^^^ b = 0 ↔ a = b := by
  constructor
  · intro h
    apply Nat.eq_of_testBit_eq
    intro i
    have := congrArg (fun x => x.testBit i) h
    simpa using this
  · rintro rfl
    simp
theorem dif_zero (xs ys : List UInt8) : ∀ n, dif xs ys n = 0 ↔ ∀ k, k < n → xs[k]?.getD 0 = ys[k]?.getD 0
  | 0 => by simp [dif]
  | n + 1 => by
    simp only [dif]
    rw [or_zero_iff, dif_zero xs ys n, xor_zero_iff]
    constructor
    · rintro ⟨h1, h2⟩ k hk
      rcases Nat.lt_or_ge k n with h | h
      · exact h1 k h
      · obtain rfl : k = n := by omega
        exact UInt8.toNat_inj.1 h2
    · intro h
      exact ⟨fun k hk => h k (by omega), by rw [h n (by omega)]⟩
theorem dif_all (xs ys : List UInt8) (h : xs.length = ys.length) : dif xs ys xs.length = 0 ↔ xs = ys := by
  rw [dif_zero]
  constructor
  · intro hk
    apply List.ext_getElem h
    intro i h1 h2
    have := hk i h1
    simpa [List.getElem?_eq_getElem h1, List.getElem?_eq_getElem h2] using this
  · rintro rfl _ _
    rfl

set_option maxHeartbeats 400000 in
theorem Equal_any (A B : Option Addr) (c d : Nat) (xs ys : List UInt8) (w : World) (ok ok' : Nat → Prop) (h : RowV Kn.byte w ok A xs) (h' : RowV Kn.byte w ok' B ys) :
    Calls Tryz.prog 24 #[.slice A xs.length c, .slice B ys.length d] w fun e w' => e = .returned (.bool (decide (xs = ys))) ∧ ∃ n, w' = w.drewN n := by
  have hl := h.1
  have hl' := h'.1
  by_cases hlen : xs.length = ys.length
  · have HL : Hid (xs.length = ys.length) := hlen
    have hle : ys.length ≤ xs.length := by omega
    have hge : xs.length ≤ ys.length := by omega
    have hne : (((xs.length : Nat) : Int) != ((ys.length : Nat) : Int)) = false := by simp [hlen]
    clear hlen
    go_enter Tryz.func24, Tryz.ntmps24
    go_wp2
    go_loopw [5, 6, 14] (fun v _ i wr => ∃ k : Nat, k ≤ xs.length ∧ i = .int .i64 k ∧ v = .int .u8 (dif xs ys k : Int) ∧ ∃ m, wr = w.drewN m) (fun _ _ i _ => xs.length - (intOf i).toNat)
    case atStart => exact ⟨0, Nat.zero_le _, rfl, rfl, 0, rfl⟩
    case round =>
      obtain ⟨k, hk, rfl, rfl, m, rfl⟩ := hrel
      by_cases hlt : k < xs.length
      · obtain ⟨ad, rfl, ho, hc⟩ := row_byte_at h hlt
        obtain ⟨ad', rfl, ho', hc'⟩ := row_byte_at h' (by omega : k < ys.length)
        have b1 : (xs[k]).toNat < 256 := (xs[k]).toNat_lt
        have b2 : (ys[k]).toNat < 256 := (ys[k]).toNat_lt
        have b3 := dif_lt xs ys k
        clear h h' ho ho'
        go_wp2
        go_quiet (fail)
        go_wp2
        go_roundw
        case rel =>
          refine ⟨k + 1, by omega, by go_num, congrArg (Value.int .u8) ?_, _, rfl⟩
          rw [u8_xor_nat _ _ b1 b2, u8_or_nat _ _ b3 (Nat.xor_lt_two_pow (n := 8) b1 b2)]
          simp [dif, List.getElem?_eq_getElem hlt, List.getElem?_eq_getElem (by omega : k < ys.length)]
        case measure => simp [intOf]; omega
      · go_wp2
        go_ret
        refine ⟨?_, m, rfl⟩
        have : xs.length = k := by omega
        subst this
        have hd := dif_all xs ys HL.out
        by_cases e : xs = ys
        · rw [decide_eq_true e, (hd.2 e)]; rfl
        · rw [decide_eq_false e]
          have : dif xs ys xs.length ≠ 0 := fun z => e (hd.1 z)
          simp [this]
  · have hd : decide (xs = ys) = false := decide_eq_false (fun e => hlen (by rw [e]))
    rw [hd]
    clear hd
    have hne : (((xs.length : Nat) : Int) != ((ys.length : Nat) : Int)) = true := by rw [bne_iff_ne]; omega
    go_enter Tryz.func24, Tryz.ntmps24
    go_wp2
    go_ret
    exact ⟨rfl, 0, rfl⟩

theorem GetBig32_n (A : Option Addr) (c n : Nat) (xs : List UInt8) (w : World) (ok : Nat → Prop) (h : RowV Kn.byte w ok A xs) (hn : xs.length = n) :
    Calls Tryz.prog 59 #[.slice A n c] w fun e w' => e = .returned (.int .u32 ((gB xs 4 : Nat) : Int)) ∧ w = w' := by
  subst hn
  exact GetBig32_any A c xs w ok h
theorem Equal_n (A B : Option Addr) (c d n m : Nat) (xs ys : List UInt8) (w : World) (ok ok' : Nat → Prop) (h : RowV Kn.byte w ok A xs) (h' : RowV Kn.byte w ok' B ys) (hn : xs.length = n) (hm : ys.length = m) :
    Calls Tryz.prog 24 #[.slice A n c, .slice B m d] w fun e w' => e = .returned (.bool (decide (xs = ys))) ∧ ∃ n, w' = w.drewN n := by
  subst hn
  subst hm
  exact Equal_any A B c d xs ys w ok ok' h h'
end Go.Proofs.YtkenmpggblefiaaGreatDoor
