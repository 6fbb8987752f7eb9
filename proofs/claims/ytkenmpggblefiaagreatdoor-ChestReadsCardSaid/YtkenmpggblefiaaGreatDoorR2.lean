/- The walk of the reference's work on a block. -/
import Derived.Test.YtkenmpggblefiaaGreatDoorR1
namespace Go.Proofs.YtkenmpggblefiaaGreatDoor
open Go.RowKit
attribute [local go_sem ↓] Go.wp_at_zero Go.wp_at_succ

theorem rGetBig_n (A : Option Addr) (c n : Nat) (xs : List UInt8) (m : Nat) (w : World) (ok : Nat → Prop) (h : RowV Kn.byte w ok A xs) (hn : xs.length = n) (hm : m ≤ 8) :
    Calls Tryz.prog 30 #[.slice A n c, .int .i64 m] w fun e w' => e = .returned (.int .u64 ((gB xs m : Nat) : Int)) ∧ w = w' := rGetBig_any A c n xs m w ok h hn hm

/-- a row of numbers -/
abbrev Row32 (w : World) (g : Nat) (l : List Int) : Prop := Blk w g 98 (n32 l).toArray

theorem ror_s (x : Int) (n s : Nat) (w : World) (h0 : 0 < n) (hn : n < 32) (hs : 32 - n = s) :
    Calls Tryz.prog 61 #[.int .u32 x, .int .i64 n] w fun e w' => e = .returned (.int .u32 (rl x s)) ∧ w' = w := by
  subst hs
  exact (ror_any x n w h0 hn).mono fun _ _ ⟨a, b⟩ => ⟨a, b.symm⟩
theorem ror7 (x : Int) (w : World) (n : Nat) : Calls Tryz.prog 61 #[.int .u32 x, .int .i64 7] (w.drewN n) fun e w' => e = .returned (.int .u32 (rl x 25)) ∧ ∃ m, w' = w.drewN m := Calls.quiet_of_same (ror_s x 7 25 _ (by omega) (by omega) (by omega))
theorem ror18 (x : Int) (w : World) (n : Nat) : Calls Tryz.prog 61 #[.int .u32 x, .int .i64 18] (w.drewN n) fun e w' => e = .returned (.int .u32 (rl x 14)) ∧ ∃ m, w' = w.drewN m := Calls.quiet_of_same (ror_s x 18 14 _ (by omega) (by omega) (by omega))
theorem ror17 (x : Int) (w : World) (n : Nat) : Calls Tryz.prog 61 #[.int .u32 x, .int .i64 17] (w.drewN n) fun e w' => e = .returned (.int .u32 (rl x 15)) ∧ ∃ m, w' = w.drewN m := Calls.quiet_of_same (ror_s x 17 15 _ (by omega) (by omega) (by omega))
theorem ror19 (x : Int) (w : World) (n : Nat) : Calls Tryz.prog 61 #[.int .u32 x, .int .i64 19] (w.drewN n) fun e w' => e = .returned (.int .u32 (rl x 13)) ∧ ∃ m, w' = w.drewN m := Calls.quiet_of_same (ror_s x 19 13 _ (by omega) (by omega) (by omega))
theorem ror6 (x : Int) (w : World) (n : Nat) : Calls Tryz.prog 61 #[.int .u32 x, .int .i64 6] (w.drewN n) fun e w' => e = .returned (.int .u32 (rl x 26)) ∧ ∃ m, w' = w.drewN m := Calls.quiet_of_same (ror_s x 6 26 _ (by omega) (by omega) (by omega))
theorem ror11 (x : Int) (w : World) (n : Nat) : Calls Tryz.prog 61 #[.int .u32 x, .int .i64 11] (w.drewN n) fun e w' => e = .returned (.int .u32 (rl x 21)) ∧ ∃ m, w' = w.drewN m := Calls.quiet_of_same (ror_s x 11 21 _ (by omega) (by omega) (by omega))
theorem ror25 (x : Int) (w : World) (n : Nat) : Calls Tryz.prog 61 #[.int .u32 x, .int .i64 25] (w.drewN n) fun e w' => e = .returned (.int .u32 (rl x 7)) ∧ ∃ m, w' = w.drewN m := Calls.quiet_of_same (ror_s x 25 7 _ (by omega) (by omega) (by omega))
theorem ror2 (x : Int) (w : World) (n : Nat) : Calls Tryz.prog 61 #[.int .u32 x, .int .i64 2] (w.drewN n) fun e w' => e = .returned (.int .u32 (rl x 30)) ∧ ∃ m, w' = w.drewN m := Calls.quiet_of_same (ror_s x 2 30 _ (by omega) (by omega) (by omega))
theorem ror13 (x : Int) (w : World) (n : Nat) : Calls Tryz.prog 61 #[.int .u32 x, .int .i64 13] (w.drewN n) fun e w' => e = .returned (.int .u32 (rl x 19)) ∧ ∃ m, w' = w.drewN m := Calls.quiet_of_same (ror_s x 13 19 _ (by omega) (by omega) (by omega))
theorem ror22 (x : Int) (w : World) (n : Nat) : Calls Tryz.prog 61 #[.int .u32 x, .int .i64 22] (w.drewN n) fun e w' => e = .returned (.int .u32 (rl x 10)) ∧ ∃ m, w' = w.drewN m := Calls.quiet_of_same (ror_s x 22 10 _ (by omega) (by omega) (by omega))
theorem rp2 (x : Int) (w : World) : Calls Tryz.prog 61 #[.int .u32 x, .int .i64 2] w fun e w' => e = .returned (.int .u32 (rl x 30)) ∧ w = w' := (ror_any x 2 w (by omega) (by omega))
theorem rp13 (x : Int) (w : World) : Calls Tryz.prog 61 #[.int .u32 x, .int .i64 13] w fun e w' => e = .returned (.int .u32 (rl x 19)) ∧ w = w' := (ror_any x 13 w (by omega) (by omega))
theorem rp22 (x : Int) (w : World) : Calls Tryz.prog 61 #[.int .u32 x, .int .i64 22] w fun e w' => e = .returned (.int .u32 (rl x 10)) ∧ w = w' := (ror_any x 22 w (by omega) (by omega))
theorem addUp8 (st V : List Int) (h : st.length = 8) : addUp st V 8 = [(wd st 0 + wd V 0) % 4294967296, (wd st 1 + wd V 1) % 4294967296, (wd st 2 + wd V 2) % 4294967296, (wd st 3 + wd V 3) % 4294967296,
    (wd st 4 + wd V 4) % 4294967296, (wd st 5 + wd V 5) % 4294967296, (wd st 6 + wd V 6) % 4294967296, (wd st 7 + wd V 7) % 4294967296] := by
  match st, h with
  | [a, b, c, d, e, f, g, h], _ => rfl
theorem own_drewN {w : World} {B : Nat} {e : TypeId} {size n : Nat} {v : Value} {xs : List Value} (h : w.ownsRow B e size v n xs) (m : Nat) : (w.drewN m).ownsRow B e size v n xs :=
  h.kept (grown_drewN (World.grownBy.refl w none) m) (by cases v.ownBlock <;> simp)
theorem own32_open {w : World} {B : Nat} {v : Value} {l : List Int} {n : Nat} (h : w.ownsRow B 98 1 v n (n32 l)) (hn : 0 < n) :
    ∃ g c, v = .slice (some ⟨g, 0, none⟩) n c ∧ l.length = n ∧ B ≤ g ∧ n ≤ c ∧ (∀ i, i < n → w.cell? ⟨g, i, none⟩ = some (.int .u32 (wd l i))) := by
  have hl : l.length = n := by have := h.1; rw [n32_length] at this; omega
  rcases h.2 with ⟨_, h0⟩ | ⟨g, cap, cur, rfl, hb, hh, h1, h2, _⟩
  · omega
  · refine ⟨g, cap, rfl, hl, hb, h1, fun i hi => ?_⟩
    have := h.cells (g := g) rfl i (.int .u32 (wd l i)) (by rw [n32_get]; simp [wd, List.getElem?_eq_getElem (show i < l.length by omega)])
    rwa [add_plain, Nat.zero_add] at this

set_option maxHeartbeats 1000000 in
set_option maxRecDepth 100000 in
theorem rWork_any (gs gk : Nat) (ad : Addr) (c : Nat) (xs : List UInt8) (st ks : List Int) (w : World) (hs : Row32 w gs st) (hk : Row32 w gk ks) (h : RowV Kn.byte w (old w) (some ad) xs) (h1 : st.length = 8) (h2 : ks.length = 64) (hx : xs.length = 64) (hc : 64 ≤ c) :
    Calls Tryz.prog 49 #[.slice (some ⟨gs, 0, none⟩) 8 8, .slice (some ⟨gk, 0, none⟩) 64 64, .slice (some ad) 64 c] w fun e w' => ∃ g, e = .returned (.slice (some ⟨g, 0, none⟩) 8 8) ∧ Row32 w' g (work st ks xs) ∧ Below w.heap.size w w' := by
  have HS := Lib.hid hs
  have HK := Lib.hid hk
  have H := Lib.hid h
  have H1 := Lib.hid h1
  have H2 := Lib.hid h2
  have HX := Lib.hid hx
  clear hs hk h h1 h2 hx
  go_enter Tryz.func49, Tryz.ntmps49
  go_wp2_with fail
  go_loopw [7, 8] (fun v i wr => ∃ k : Nat, k ≤ 16 ∧ i = .int .i64 k ∧ wr.ownsRow w.heap.size 98 1 v k (n32 (sch0 xs k)) ∧ Below w.heap.size w wr) (fun _ i _ => 16 - (intOf i).toNat)
  case atStart => exact ⟨0, by omega, rfl, World.ownsRow_nil _ _ _ _, Below.refl _ _⟩
  case round =>
    obtain ⟨k, hk, rfl, hown, hb⟩ := hrel
    have HO := Lib.hid hown
    have HB := Lib.hid hb
    clear hown hb
    by_cases hlt : k < 16
    · have hne : ¬ c = 4 * k := by omega
      have hrow : RowV Kn.byte w (old w) (some (ad.add (4 * k))) (xs.drop (4 * k)) := by
        have := (H.out.drop_at (k := 4 * k) (by have := HX.out; omega))
        simpa [Kn.byte, Kn.scalar] using this
      have HR := Lib.hid hrow
      have HRL : Hid ((xs.drop (4 * k)).length = 64 - 4 * k) := by show _ = _; have := HX.out; simp; omega
      clear hrow
      have hg := gB_lt (xs.drop (4 * k)) 4
      go_wp2_with fail
      refine (rGetBig_n _ _ _ (xs.drop (4 * k)) 4 _ _ (HR.out.below HB.out) HRL.out (by omega)).mono ?_
      rintro e w' ⟨rfl, rfl⟩
      go_wp2_with (with_reducible change wpList _ _ _ ({ dst := some 35, op := _, type := _, pos := _, after := _, guard := _ } :: _) _ _; go_must (refine wpList_push rfl (.tmp 27) (.tmp 34) 95 rfl w.heap.size 98 (.int .u32 0) 4 Tryz.underlying95 (by kernel_rfl) rfl (u7) (k) _ (.int .u32 (gB (xs.drop (4 * k)) 4 : Nat)) rfl rfl rfl (HO.out) (HB.out) (by simp only [maxLen]; omega) (by omega) (HB.out).size ?_); rintro v' w' hown hb _ _)
      go_roundw
      case measure => simp [intOf]; omega
      case rel => exact ⟨k + 1, by omega, by go_num, by simpa [sch0, n32] using hown, hb⟩
    · obtain rfl : k = 16 := by omega
      clear hk hlt
      rw [show ((16 : Nat) : Int) = 16 from rfl]
      go_wp2_with fail
      go_loopw [7, 9, 10, 11] (fun v i _ _ wr => ∃ k : Nat, k ≤ 48 ∧ i = .int .i64 ((k + 16 : Nat) : Int) ∧ wr.ownsRow w.heap.size 98 1 v (k + 16) (n32 (sch1 (sch0 xs 16) k)) ∧ Below w.heap.size w wr) (fun _ i _ _ _ => 64 - (intOf i).toNat)
      case atStart => exact ⟨0, by omega, rfl, HO.out, HB.out⟩
      case round =>
        clear HO HB
        obtain ⟨k, hk, rfl, hown, hb⟩ := hrel
        obtain ⟨g, cc, rfl, hl2, hgB, hcc, hcell⟩ := own32_open hown (by omega)
        have HO := Lib.hid hown
        have HB := Lib.hid hb
        have HL2 := Lib.hid hl2
        clear hown hb hl2
        by_cases hlt : k < 48
        · have e15 := hcell (k + 1) (by omega)
          have e2 := hcell (k + 14) (by omega)
          have e16 := hcell k (by omega)
          have e7 := hcell (k + 9) (by omega)
          clear hcell
          have q15 : IntKind.i64.wrap ((k : Int) + 16 - 15) = ((k + 1 : Nat) : Int) := by rw [IntWalk.i64_in _ (by omega)]; omega
          have q2 : IntKind.i64.wrap ((k : Int) + 16 - 2) = ((k + 14 : Nat) : Int) := by rw [IntWalk.i64_in _ (by omega)]; omega
          have q16 : IntKind.i64.wrap (k : Int) = ((k : Nat) : Int) := by rw [IntWalk.i64_in _ (by omega)]
          have q7 : IntKind.i64.wrap ((k : Int) + 16 - 7) = ((k + 9 : Nat) : Int) := by rw [IntWalk.i64_in _ (by omega)]; omega
          have t9 : ((k : Int) + 9).toNat = k + 9 := by omega
          have b15 : (0 : Int) ≤ (k : Int) + 1 := by omega
          have c15 : (k : Int) + 1 < (k : Int) + 16 := by omega
          have b2 : (0 : Int) ≤ (k : Int) + 14 := by omega
          have c2 : (k : Int) + 14 < (k : Int) + 16 := by omega
          have b7 : (0 : Int) ≤ (k : Int) + 9 := by omega
          have c7 : (k : Int) + 9 < (k : Int) + 16 := by omega
          have b16 : (0 : Int) ≤ (k : Int) := by omega
          have c16 : (k : Int) < (k : Int) + 16 := by omega
          go_wp2_with fail
          go_quiet (first
            | (go_at_call 61; with_reducible exact ror7 _ _ _)
            | (go_at_call 61; with_reducible exact ror18 _ _ _))
          replace e15 : (wr.drewN nq).cell? _ = _ := e15
          replace e2 : (wr.drewN nq).cell? _ = _ := e2
          replace e16 : (wr.drewN nq).cell? _ = _ := e16
          replace e7 : (wr.drewN nq).cell? _ = _ := e7
          replace HO := Lib.hid (own_drewN HO.out nq)
          replace HB := Lib.hid (below_drewN HB.out nq)
          generalize hwq : wr.drewN nq = wq at *
          clear hwq
          go_wp2_with fail
          go_quiet (first
            | (go_at_call 61; with_reducible exact ror17 _ _ _)
            | (go_at_call 61; with_reducible exact ror19 _ _ _))
          replace e15 : (wq.drewN nq).cell? _ = _ := e15
          replace e2 : (wq.drewN nq).cell? _ = _ := e2
          replace e16 : (wq.drewN nq).cell? _ = _ := e16
          replace e7 : (wq.drewN nq).cell? _ = _ := e7
          replace HO := Lib.hid (own_drewN HO.out nq)
          replace HB := Lib.hid (below_drewN HB.out nq)
          generalize hwq : wq.drewN nq = wz at *
          clear hwq
          go_wp2_with fail
          go_region_law ((refine step_push (w0 := w) (by rfl) (.tmp 80) (.tmp 96) 95 (by rfl) w.heap.size 98 (.int .u32 0) 4 Tryz.underlying95 (by kernel_rfl) rfl _ (k + 16) _ (.int .u32 _) wz.heap.size (by rfl) (by rfl) (by rfl) (by exact Blk.new wz _ _) ((HO.out.alloc _).drew) ((HB.out.alloc (HB.out.size) _).drew) (by simp only [maxLen]; omega) (by omega) (by have := HB.out.size; simp; omega) ?_; intro v' w' hown hb _ _))
          go_wp2_with fail
          all_goals go_roundw
          all_goals first
            | (refine ⟨k + 1, by omega, by go_num, ?_, hb⟩
               rw [show k + 16 + 1 = k + 1 + 16 by omega] at hown
               have e : ∀ a b c d : Int, IntKind.u32.wrap (IntKind.u32.wrap (IntKind.u32.wrap (a + b) + c) + d) = (a + b + c + d) % 4294967296 := fun a b c d => by
                 show (((a + b) % 4294967296 + c) % 4294967296 + d) % 4294967296 = _
                 omega
               rw [e] at hown
               simpa [sch1, n32, snext, x32] using hown)
            | (simp [intOf]; omega)
        · obtain rfl : k = 48 := by omega
          clear hk hlt
          rw [show ((48 + 16 : Nat) : Int) = 64 from rfl]
          have s0 := word_cell (HS.out.below HB.out HS.out.lt) (i := 0) (by have := H1.out; omega)
          have s1 := word_cell (HS.out.below HB.out HS.out.lt) (i := 1) (by have := H1.out; omega)
          have s2 := word_cell (HS.out.below HB.out HS.out.lt) (i := 2) (by have := H1.out; omega)
          have s3 := word_cell (HS.out.below HB.out HS.out.lt) (i := 3) (by have := H1.out; omega)
          have s4 := word_cell (HS.out.below HB.out HS.out.lt) (i := 4) (by have := H1.out; omega)
          have s5 := word_cell (HS.out.below HB.out HS.out.lt) (i := 5) (by have := H1.out; omega)
          have s6 := word_cell (HS.out.below HB.out HS.out.lt) (i := 6) (by have := H1.out; omega)
          have s7 := word_cell (HS.out.below HB.out HS.out.lt) (i := 7) (by have := H1.out; omega)
          generalize hW : sch1 (sch0 xs 16) 48 = W at *
          have HW := Lib.hid hW
          clear hW
          go_wp2_with fail
          go_quiet (fail)
          go_wp2_with fail
          go_loopw [12, 13, 14, 15, 16, 17, 18, 19, 20, 21, 22] (fun a b c d e f g h i _ _ wq => ∃ k : Nat, k ≤ 64 ∧ i = .int .i64 k ∧ a = .int .u32 (wd (rounds st ks W k) 0) ∧ b = .int .u32 (wd (rounds st ks W k) 1) ∧ c = .int .u32 (wd (rounds st ks W k) 2) ∧ d = .int .u32 (wd (rounds st ks W k) 3)
            ∧ e = .int .u32 (wd (rounds st ks W k) 4) ∧ f = .int .u32 (wd (rounds st ks W k) 5) ∧ g = .int .u32 (wd (rounds st ks W k) 6) ∧ h = .int .u32 (wd (rounds st ks W k) 7) ∧ ∃ q, wq = wr.drewN q) (fun _ _ _ _ _ _ _ _ i _ _ _ => 64 - (intOf i).toNat)
          case atStart => exact ⟨0, by omega, rfl, rfl, rfl, rfl, rfl, rfl, rfl, rfl, rfl, _, rfl⟩
          case round =>
            obtain ⟨k, hk, rfl, rfl, rfl, rfl, rfl, rfl, rfl, rfl, rfl, q, rfl⟩ := hrel
            by_cases hlt : k < 64
            · have fk : (wr.drewN q).cell? ⟨gk, k, none⟩ = some (.int .u32 (wd ks k)) := word_cell (HK.out.below HB.out HK.out.lt) (i := k) (by have := H2.out; omega)
              have fw : (wr.drewN q).cell? ⟨g, k, none⟩ = some (.int .u32 (wd W k)) := hcell k (by omega)
              clear s0 s1 s2 s3 s4 s5 s6 s7 hcell
              have HQ : Hid (wr.drewN q = wr.drewN q) := rfl
              generalize hwq : wr.drewN q = wq at *
              have HWQ := Lib.hid hwq
              clear hwq
              have hd : decide ((k : Int) < 64) = true := by simp; omega
              have hsgn : IntKind.u32.signed = false := rfl
              have hmax : IntKind.u32.max = 4294967295 := rfl
              have HV : Hid (rounds st ks W (k + 1) = round1 (rounds st ks W k) (wd ks k) (wd W k)) := rfl
              generalize rounds st ks W k = V at *
              go_wp2_with fail
              go_quiet (first
                | (go_at_call 61; with_reducible exact ror6 _ _ _)
                | (go_at_call 61; with_reducible exact ror11 _ _ _)
                | (go_at_call 61; with_reducible exact ror25 _ _ _))
              go_wp2_with (go_at_call 61; (first | (with_reducible refine (rp2 _ _).mono ?_) | (with_reducible refine (rp13 _ _).mono ?_) | (with_reducible refine (rp22 _ _).mono ?_)); rintro e w' ⟨rfl, rfl⟩)
              go_roundw
              case measure => simp [intOf]; omega
              case rel =>
                have hv := HV.out
                iterate 76 apply Exists.intro
                refine And.intro ?_ rfl
                refine ⟨k + 1, by omega, by go_num, ?_, ?_, ?_, ?_, ?_, ?_, ?_, ?_, q + nq, by rw [← HWQ.out]; exact World.drewN_drewN ..⟩
                all_goals first
                  | (rw [hv]; rfl)
                  | (rw [hv]; simp [round1, wd, x32, a32])
            · obtain rfl : k = 64 := by omega
              rw [show ((64 : Nat) : Int) = 64 from rfl]
              generalize hV : rounds st ks W 64 = V at *
              have HV := Lib.hid hV
              clear hV
              replace s0 : (wr.drewN q).cell? _ = _ := s0
              replace s1 : (wr.drewN q).cell? _ = _ := s1
              replace s2 : (wr.drewN q).cell? _ = _ := s2
              replace s3 : (wr.drewN q).cell? _ = _ := s3
              replace s4 : (wr.drewN q).cell? _ = _ := s4
              replace s5 : (wr.drewN q).cell? _ = _ := s5
              replace s6 : (wr.drewN q).cell? _ = _ := s6
              replace s7 : (wr.drewN q).cell? _ = _ := s7
              replace HB := Lib.hid (below_drewN HB.out q)
              clear hcell HO
              generalize hwq : wr.drewN q = wq at *
              clear hwq
              go_wp2_with fail
              go_still_tail 40, (by kernel_rfl)
              change wpList _ _ _ _ _ wq.drew
              go_wp2_with fail
              go_ret
              refine ⟨_, rfl, ?_, (HB.out.drew).alloc (by have := HB.out.size; exact this) _⟩
              have h9 : work st ks xs = addUp st V 8 := by
                unfold work sch
                rw [HW.out, HV.out]
              rw [h9, addUp8 _ _ H1.out]
              exact Blk.new wq.drew _ _
end Go.Proofs.YtkenmpggblefiaaGreatDoor
