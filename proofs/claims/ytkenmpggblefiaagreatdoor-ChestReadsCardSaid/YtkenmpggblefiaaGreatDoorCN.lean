/- Proved: the tied card of orloplaw27.ChestReads: for every input the law returns true and its arguments read as before. Conditions: those of the card's row alone: the package variables that it lists start as the program's text lays them (the given tie; a pruned copy of the project); no condition of our own. -/
import Derived.Test.YtkenmpggblefiaaGreatDoorCL
import Derived.Test.YtkenmpggblefiaaGreatDoorCards
import Derived.Test.YtkenmpggblefiaaGreatDoorTie
import Derived.LaidMore
import Derived.Lay
import Derived.SevenTiedAt
import Derived.Stop.Joined
namespace Go.Proofs.YtkenmpggblefiaaGreatDoor.cr
open Go.ChangeShapes Go.WideShapes Go.ChangeAt Go.RowKit

theorem own : ownKnob Tryz.prog.godebug = none := by kernel_rfl
theorem laidOut : laidOutB Tryz.prog = true := by kernel_rfl

set_option maxRecDepth 100000 in
theorem lifted (os : Os) (started : os.Started) (H : Type) (enc : TypeId × Value → H) :
    ReturnsInHanded {} Tryz.checked os 4 .any (fun w args => (Rows.chestReadsSpec.pre enc Tryz.prog Tryz.f4 Rows.chestReadsRow.domain false w args ∧ laidMetH Tryz.prog Rows.chestReadsRow.laid w) ∧ sizedMet enc Tryz.prog Tryz.f4 (OpenSpec.ofChange Rows.chestReadsSpec) false w args)
      (Rows.chestReadsSpec.post enc Tryz.prog Tryz.f4 false true false false) := by
  refine returnsInHanded_of_change_and (C := Tryz.checked) (X := fun w _ => laidMetH Tryz.prog Rows.chestReadsRow.laid w) (fun _ _ _ hh h => h.of_heap hh) own started (by kernel_rfl) Tryz.func4
    (ChangeSpec.witness_shaped (enc := enc) (C := Tryz.checked) (os := os) (X := fun w _ => laidMetH Tryz.prog Rows.chestReadsRow.laid w) false (World.laidAll Tryz.prog os Rows.chestReadsRow.laid) #[.bool false, .slice none 0 0, .slice none 0 0] 8 (World.laidAll_os _ _ _)
      (World.shaped_of_ZipB (by kernel_rfl) (by kernel_rfl)) (by kernel_rfl) (by kernel_rfl) (by kernel_rfl)
      (by rw [MakeChecks.laidMetH_plain _ _ _ (by kernel_rfl)]; exact laidMet_laidAll _ (by kernel_rfl) (by kernel_rfl))) ?_
  intro W base args ds gs before hval0 hW _ hsz0 _ _
  have hval : ∀ (j : Nat) t v, Tryz.f4.params[j]? = some t → args[j]? = some v → Value.okWide Tryz.prog W .any base t v := hval0
  have hsz : (DataW.weightsEach Tryz.prog (Tryz.f4.params.toList ++ Rows.chestReadsSpec.plain.varTypes Tryz.prog) (ds ++ gs)).all (· ≤ reachBytes) = true := hsz0
  have hW' := hW
  obtain ⟨p, q, hA0, hV, rfl, hfz, hnd⟩ := hW
  have hA : DataW.TrodAll enc Tryz.prog W 0 (fun _ => true) true Tryz.f4.params.toList args.toList ds p := hA0
  rw [Tryz.params4] at hA hval hsz
  obtain ⟨v0, vs0, d0, ds0, p0, q0, hargs, rfl, rfl, h0, r0⟩ := trodAll_cons hA
  obtain ⟨v1, vs1, d1, ds1, p1, q1, rfl, rfl, rfl, h1, r1⟩ := trodAll_cons r0
  obtain ⟨v2, vs2, d2, ds2, p2, q2, rfl, rfl, rfl, h2, r2⟩ := trodAll_cons r1
  obtain ⟨rfl, rfl, rfl⟩ := trodAll_nil r2
  obtain rfl : args = #[v0, v1, v2] := by cases args; simp_all
  obtain ⟨rfl, rfl⟩ := trodVars_none hV
  obtain ⟨ideal, rfl, rfl, rfl⟩ := open_bool Tryz.underlying4 (hval 0 4 v0 rfl rfl) h0
  obtain ⟨a1, n1, c1, rfl⟩ := okWide_slice Tryz.underlying22 (hval 1 22 v1 rfl rfl)
  obtain ⟨a2, n2, c2, rfl⟩ := okWide_slice Tryz.underlying33 (hval 2 33 v2 rfl rfl)
  have k1 := h1
  have k2 := h2
  have lt2 : ∀ x ∈ p2, x.block < W.heap.size := by obtain ⟨m, hm⟩ := k2; exact DataW.trod_lt m _ _ _ hm
  have lt1 : ∀ x ∈ p1, x.block < W.heap.size := by obtain ⟨m, hm⟩ := k1; exact DataW.trod_lt m _ _ _ hm
  have hw1 : (DataW.weights Tryz.prog 22 d1).all (fun k => decide (k ≤ reachBytes)) = true := by
    have h9 := hsz
    simp only [DataW.weightsEach, List.cons_append, List.nil_append, List.all_append, Bool.and_eq_true] at h9
    exact h9.2.1
  have hw2 : (DataW.weights Tryz.prog 33 d2).all (fun k => decide (k ≤ reachBytes)) = true := by
    have h9 := hsz
    simp only [DataW.weightsEach, List.cons_append, List.nil_append, List.all_append, Bool.and_eq_true] at h9
    exact h9.2.2.1
  obtain ⟨fuel2, hf2⟩ := h2
  obtain ⟨B, d, xs, e5, hxd, hrow2⟩ := open_byteRow hf2 hw2
  have e6 : [Value.slice a2 n2 c2] = [Value.slice B xs.length d] := e5
  obtain ⟨rfl, rfl, rfl⟩ : B = a2 ∧ xs.length = n2 ∧ d = c2 := by
    simp only [List.cons.injEq, Value.slice.injEq, and_true] at e6
    exact ⟨e6.1.symm, e6.2.1.symm, e6.2.2.symm⟩
  clear hf2 hw2 e5 e6
  obtain ⟨fuel, hf⟩ := h1
  obtain ⟨A, c, l, e1, hrow, hfit⟩ := open_chests hf hw1
  have e2 : [Value.slice a1 n1 c1] = [Value.slice A l.length c] := e1
  obtain ⟨rfl, rfl, rfl⟩ : A = a1 ∧ l.length = n1 ∧ c = c1 := by
    simp only [List.cons.injEq, Value.slice.injEq, and_true] at e2
    exact ⟨e2.1.symm, e2.2.1.symm, e2.2.2.symm⟩
  clear hA0 hval0 hsz0 hsz hf hw1 e1 e2
  refine (chestReads_any ideal A c l.length l B d xs.length xs W hrow rfl hfit hrow2 rfl hxd).mono fun e W' ⟨he, bel⟩ => ?_
  subst he
  exact ⟨_, rfl, _, _, _, [], _, [], hW', trodAll_mk1 (shut_bool Tryz.underlying4 _), (trodAll_cons_mk (shut_bool Tryz.underlying4 _) (trodAll_cons_mk (Below.trod laidOut (by kernel_rfl) (of_decide_eq_true (by kernel_rfl)) k1 bel lt1) (trodAll_cons_mk (Below.trod laidOut (by kernel_rfl) (of_decide_eq_true (by kernel_rfl)) k2 bel lt2) trodAll_mk0))), rfl, bel.frame _, fun h => by cases h⟩

theorem said : Rows.ChestReadsSaid :=
  OpenClaim.holds_of_wide 4 Tryz.f4 rfl rfl rfl rfl rfl rfl rfl ⟨rfl, rfl, rfl, rfl, rfl⟩ rfl rfl rfl rfl rfl (by kernel_rfl) Tryz.func4 (by kernel_rfl)
    (of_decide_eq_true (by kernel_rfl)) (by unfold Func.isWrapper; first | (rw [if_pos (by decide +kernel)]; kernel_rfl) | (rw [if_neg (by decide +kernel)]; exact ⟨rfl, rfl⟩))
    (fun os started H enc _ => lifted os started H enc)
theorem card : Rows.ChestReadsCardSaid :=
  Claim7.holds_tied_plain_at .later [] _ _ _ _ said (fun _ h => by cases h) (by kernel_rfl) (fun _ h => by cases h) chestReads_row_tie rfl ⟨rfl, rfl⟩ (by kernel_rfl) rfl
    (fun f fn hf hfn => by
      obtain rfl : f = 4 := Option.some.inj ((show Tryz.prog.funcNamed "orlop/orloplaw27.ChestReads" = some 4 by kernel_rfl).symm.trans hf) |>.symm
      obtain rfl : fn = Tryz.f4 := (Option.some.inj (Tryz.func4.symm.trans hfn)).symm
      exact ⟨by kernel_rfl, fun j t ht => by
        rw [Tryz.params4] at ht
        have hm : t ∈ [4, 22, 33] := by simpa using Array.mem_of_getElem? ht
        have hall : ([4, 22, 33].all fun u => !Tryz.prog.wantsStandIn u) = true := by kernel_rfl
        exact (show Tryz.prog.wantsStandIn t = false by simpa using List.all_eq_true.1 hall t hm)⟩)
    (by kernel_rfl)
end Go.Proofs.YtkenmpggblefiaaGreatDoor.cr
namespace Go.Proofs.YtkenmpggblefiaaGreatDoor
theorem chestReads_holds : Rows.ChestReadsCardSaid := cr.card
#print axioms chestReads_holds
end Go.Proofs.YtkenmpggblefiaaGreatDoor
