/- 'metrolabtop.TopBonusDiscs' returns true at all arguments, and leaves what was there as it was: the tied card.
   The conditions: the listed package-level variables begin as the program's text lays them (tied); each text and slice takes at most the form's reach. -/
import Derived.Test.YtdpjkfkmlaphhaaGreatDoorCards
import Derived.Test.YtdpjkfkmlaphhaaGreatDoorTie
import Derived.Test.YtdpjkfkmlaphhaaGreatDoorPX
import Derived.Test.YtdpjkfkmlaphhaaGreatDoorBnK
import Derived.SevenTiedAt
import Derived.ChangeMaps5
namespace Go.Proofs.YtdpjkfkmlaphhaaGreatDoor.topBonusDiscs
open Go.ChangeShapes Go.WideShapes Go.ChangeAt Go.RowKit Go.ChangeMaps
theorem own : ownKnob Tryz.prog.godebug = none := by kernel_rfl
theorem laidOut : laidOutB Tryz.prog = true := by kernel_rfl
theorem reach : reachBytes ≤ 140737488355328 := by decide
theorem good {W : World} (h : laidMetH Tryz.prog Rows.topBonusDiscsRow.laid W) : Wk.Good W ∧ Wk.SgW W := by
  rw [MakeChecks.laidMetH_plain _ _ _ (by kernel_rfl)] at h
  exact ⟨Wk.good_of_laid (text := [118, 97, 108, 117, 101, 32, 111, 117, 116, 32, 111, 102, 32, 114, 97, 110, 103, 101]) h (by kernel_rfl) (by kernel_rfl), Wk.sg_of_laid h (by kernel_rfl)⟩
set_option maxRecDepth 100000 in
theorem lifted (os : Os) (started : os.Started) (H : Type) (enc : TypeId × Value → H) :
    ReturnsInHanded {} Tryz.checked os 6 .any (fun w args => (Rows.topBonusDiscsSpec.pre enc Tryz.prog Tryz.f6 Rows.topBonusDiscsRow.domain false w args ∧ laidMetH Tryz.prog Rows.topBonusDiscsRow.laid w) ∧ sizedMet enc Tryz.prog Tryz.f6 (OpenSpec.ofChange Rows.topBonusDiscsSpec) false w args)
      (Rows.topBonusDiscsSpec.post enc Tryz.prog Tryz.f6 false true false false) := by
  refine returnsInHanded_of_change_and (C := Tryz.checked) (X := fun w _ => laidMetH Tryz.prog Rows.topBonusDiscsRow.laid w) (fun _ _ _ hh h => h.of_heap hh) own started (by kernel_rfl) Tryz.func6
    (ChangeSpec.witness_shaped (enc := enc) (C := Tryz.checked) (os := os) (X := fun w _ => laidMetH Tryz.prog Rows.topBonusDiscsRow.laid w) false (World.laidAll Tryz.prog os Rows.topBonusDiscsRow.laid) #[.agg #[.int .i64 0, .int .i64 0, .int .i64 0, .int .i64 0, .int .i64 0, .int .i64 0, .bool false], .agg #[.int .i64 0, .int .i64 0, .int .i64 0]] 8 (World.laidAll_os _ _ _)
      (World.shaped_of_ZipB (by kernel_rfl) (by kernel_rfl)) (by kernel_rfl) (by kernel_rfl) (by kernel_rfl)
      (by rw [MakeChecks.laidMetH_plain _ _ _ (by kernel_rfl)]; exact laidMet_laidAll _ (by kernel_rfl) (by kernel_rfl))) ?_
  intro W base args ds gs before hval0 hW _ hsz hL _
  have hval : ∀ (j : Nat) t v, Tryz.f6.params[j]? = some t → args[j]? = some v → Value.okWide Tryz.prog W .any base t v := hval0
  have hW' := hW
  obtain ⟨p, q, hA0, hV, rfl, hfz, hnd⟩ := hW
  have hA : DataW.TrodAll enc Tryz.prog W 0 (fun _ => true) true Tryz.f6.params.toList args.toList ds p := hA0
  rw [Tryz.params6] at hA hval hsz
  obtain ⟨v0, vs0, d0, ds0, p0, q0, hargs, rfl, rfl, h0, r0⟩ := trodAll_cons hA
  obtain ⟨v1, vs1, d1, ds1, p1, q1, rfl, rfl, rfl, h1, r1⟩ := trodAll_cons r0
  obtain ⟨rfl, rfl, rfl⟩ := trodAll_nil r1
  obtain rfl : args = #[v0, v1] := by cases args; simp_all
  obtain ⟨rfl, rfl⟩ := trodVars_none hV
  have hlt := hW'.lt
  obtain ⟨t0, rfl⟩ := Wk.open_target (hval 0 56 v0 rfl rfl) h0 hsz (j := 0) rfl rfl
  obtain ⟨c1, rfl⟩ := Wk.open_circle (hval 1 80 v1 rfl rfl) h1 hsz (j := 1) rfl rfl
  clear hA0
  refine (Wk.bdiscs_c t0 c1 W (good hL).1 (good hL).2).mono fun e W' ⟨he, hb⟩ => ?_
  subst he
  exact ⟨_, rfl, Wk.law_post hW' rfl rfl (by kernel_rfl) Tryz.underlying4 laidOut (by kernel_rfl) hb⟩
theorem qa : (Rows.topBonusDiscsRow.inPlace == Tryz.prog.inPlace 6) = true := by kernel_rfl
theorem qb : (Rows.topBonusDiscsRow.unfollowed == Tryz.prog.unfollowed 6) = true := by kernel_rfl
theorem qc : (Rows.topBonusDiscsRow.recurses == Tryz.prog.recurses 6) = true := by kernel_rfl
theorem qd : (Rows.topBonusDiscsRow.named == Tryz.prog.varsNamed 6) = true := by kernel_rfl
theorem closed : joinedFacts Tryz.prog 6 Tryz.f6 Rows.topBonusDiscsSpec Rows.topBonusDiscsRow = true := by
  unfold joinedFacts
  rw [qa, qb, qc, qd]
  kernel_rfl
theorem said : Rows.TopBonusDiscsSaid :=
  OpenClaim.holds_of_wide 6 Tryz.f6 rfl rfl rfl rfl rfl rfl rfl ⟨rfl, rfl, rfl, rfl, rfl⟩ rfl rfl rfl rfl rfl (by kernel_rfl) Tryz.func6 closed
    (of_decide_eq_true (by kernel_rfl)) (by unfold Func.isWrapper; first | (rw [if_pos (by decide +kernel)]; kernel_rfl) | (rw [if_neg (by decide +kernel)]; exact ⟨rfl, rfl⟩))
    (fun os started H enc _ => lifted os started H enc)
theorem plain (f : FuncId) (fn : Func) (hf : Tryz.pinned.checked.prog.funcNamed "metrolab/metrolabtop.TopBonusDiscs" = some f) (hfn : Tryz.pinned.checked.prog.funcs[f]? = some fn) :
    true = Tryz.pinned.checked.prog.looks [] ∧ ∀ (j : Nat) t, fn.params[j]? = some t → Tryz.pinned.checked.prog.wantsStandIn t = false := by
  obtain rfl : f = 6 := Option.some.inj ((show Tryz.prog.funcNamed "metrolab/metrolabtop.TopBonusDiscs" = some 6 by kernel_rfl).symm.trans hf) |>.symm
  obtain rfl : fn = Tryz.f6 := (Option.some.inj (Tryz.func6.symm.trans hfn)).symm
  refine ⟨by kernel_rfl, fun j t ht => ?_⟩
  rw [Tryz.params6] at ht
  have hm : t ∈ [56, 80] := by simpa using Array.mem_of_getElem? ht
  have hall : ([56, 80].all fun u => !Tryz.prog.wantsStandIn u) = true := by kernel_rfl
  exact (show Tryz.prog.wantsStandIn t = false by simpa using List.all_eq_true.1 hall t hm)
theorem card : Rows.TopBonusDiscsCardSaid :=
  Claim7.holds_tied_plain_at .later [] _ _ _ _ said (fun _ h => by cases h) (by kernel_rfl) (fun _ h => by cases h) topBonusDiscs_row_tie rfl ⟨rfl, rfl⟩ (by kernel_rfl) rfl plain (by kernel_rfl)
#print axioms card
end Go.Proofs.YtdpjkfkmlaphhaaGreatDoor.topBonusDiscs
