/- 'metrolabtop.TopRingsLines' returns true at all arguments, and leaves what was there as it was: the tied card.
   The conditions: the listed package-level variables begin as the program's text lays them (tied); each text and slice takes at most the form's reach. -/
import Derived.Test.YtcdjhgkeehhaaaaGreatDoorCards
import Derived.Test.YtcdjhgkeehhaaaaGreatDoorTie
import Derived.Test.YtcdjhgkeehhaaaaGreatDoorLay
import Derived.Test.YtcdjhgkeehhaaaaGreatDoorOpenP
import Derived.Test.YtcdjhgkeehhaaaaGreatDoorUH
import Derived.SevenTiedAt
import Derived.ChangeMaps5
namespace Go.Proofs.YtcdjhgkeehhaaaaGreatDoor.topRingsLines
open Go.ChangeShapes Go.WideShapes Go.ChangeAt Go.RowKit Go.ChangeMaps
theorem own : ownKnob Tryz.prog.godebug = none := by kernel_rfl
theorem laidOut : laidOutB Tryz.prog = true := by kernel_rfl
theorem reach : reachBytes ≤ 140737488355328 := by decide
theorem good {W : World} (h : laidMetH Tryz.prog Rows.topRingsLinesRow.laid W) : Wk.Good W := by
  rw [MakeChecks.laidMetH_plain _ _ _ (by kernel_rfl)] at h
  exact Wk.good_of_laid (text := [118, 97, 108, 117, 101, 32, 111, 117, 116, 32, 111, 102, 32, 114, 97, 110, 103, 101]) h (by kernel_rfl) (by kernel_rfl)
set_option maxRecDepth 100000 in
theorem lifted (os : Os) (started : os.Started) (H : Type) (enc : TypeId × Value → H) :
    ReturnsInHanded {} Tryz.checked os 3 .any (fun w args => (Rows.topRingsLinesSpec.pre enc Tryz.prog Tryz.f3 Rows.topRingsLinesRow.domain false w args ∧ laidMetH Tryz.prog Rows.topRingsLinesRow.laid w) ∧ sizedMet enc Tryz.prog Tryz.f3 (OpenSpec.ofChange Rows.topRingsLinesSpec) false w args)
      (Rows.topRingsLinesSpec.post enc Tryz.prog Tryz.f3 false true false false) := by
  refine returnsInHanded_of_change_and (C := Tryz.checked) (X := fun w _ => laidMetH Tryz.prog Rows.topRingsLinesRow.laid w) (fun _ _ _ hh h => h.of_heap hh) own started (by kernel_rfl) Tryz.func3
    (ChangeSpec.witness_shaped (enc := enc) (C := Tryz.checked) (os := os) (X := fun w _ => laidMetH Tryz.prog Rows.topRingsLinesRow.laid w) false (World.laidAll Tryz.prog os Rows.topRingsLinesRow.laid) #[.slice none 0 0, .agg #[.int .i64 0, .int .i64 0]] 8 (World.laidAll_os _ _ _)
      (World.shaped_of_ZipB (by kernel_rfl) (by kernel_rfl)) (by kernel_rfl) (by kernel_rfl) (by kernel_rfl)
      (by rw [MakeChecks.laidMetH_plain _ _ _ (by kernel_rfl)]; exact laidMet_laidAll _ (by kernel_rfl) (by kernel_rfl))) ?_
  intro W base args ds gs before hval0 hW _ hsz hL _
  have hval : ∀ (j : Nat) t v, Tryz.f3.params[j]? = some t → args[j]? = some v → Value.okWide Tryz.prog W .any base t v := hval0
  have hW' := hW
  obtain ⟨p, q, hA0, hV, rfl, hfz, hnd⟩ := hW
  have hA : DataW.TrodAll enc Tryz.prog W 0 (fun _ => true) true Tryz.f3.params.toList args.toList ds p := hA0
  rw [Tryz.params3] at hA hval hsz
  obtain ⟨v0, vs0, d0, ds0, p0, q0, hargs, rfl, rfl, h0, r0⟩ := trodAll_cons hA
  obtain ⟨v1, vs1, d1, ds1, p1, q1, rfl, rfl, rfl, h1, r1⟩ := trodAll_cons r0
  obtain ⟨rfl, rfl, rfl⟩ := trodAll_nil r1
  obtain rfl : args = #[v0, v1] := by cases args; simp_all
  obtain ⟨rfl, rfl⟩ := trodVars_none hV
  have hlt := hW'.lt
  obtain ⟨l0, S0, y0⟩ := Wk.open_pts Tryz.underlying22 Tryz.underlying24 (by kernel_rfl) (by kernel_rfl) (by kernel_rfl) (by kernel_rfl) (by kernel_rfl) (hval 0 22 v0 rfl rfl) h0 (fun x hx => hW'.lt x (by simp [hx])) hsz (j := 0) rfl rfl
  obtain ⟨x1, rfl⟩ := Wk.open_pt Tryz.underlying24 (by kernel_rfl) (by kernel_rfl) (by kernel_rfl) (by kernel_rfl) (hval 1 24 v1 rfl rfl) h1
  clear hA0
  refine (Wk.lines_c l0 x1 W (good hL) S0 y0).mono fun e W' ⟨he, hb⟩ => ?_
  subst he
  exact ⟨_, rfl, Wk.law_post hW' rfl rfl (by kernel_rfl) Tryz.underlying4 laidOut (by kernel_rfl) hb⟩
theorem qa : (Rows.topRingsLinesRow.inPlace == Tryz.prog.inPlace 3) = true := by kernel_rfl
theorem qb : (Rows.topRingsLinesRow.unfollowed == Tryz.prog.unfollowed 3) = true := by kernel_rfl
theorem qc : (Rows.topRingsLinesRow.recurses == Tryz.prog.recurses 3) = true := by kernel_rfl
theorem qd : (Rows.topRingsLinesRow.named == Tryz.prog.varsNamed 3) = true := by kernel_rfl
theorem closed : joinedFacts Tryz.prog 3 Tryz.f3 Rows.topRingsLinesSpec Rows.topRingsLinesRow = true := by
  unfold joinedFacts
  rw [qa, qb, qc, qd]
  kernel_rfl
theorem said : Rows.TopRingsLinesSaid :=
  OpenClaim.holds_of_wide 3 Tryz.f3 rfl rfl rfl rfl rfl rfl rfl ⟨rfl, rfl, rfl, rfl, rfl⟩ rfl rfl rfl rfl rfl (by kernel_rfl) Tryz.func3 closed
    (of_decide_eq_true (by kernel_rfl)) (by unfold Func.isWrapper; first | (rw [if_pos (by decide +kernel)]; kernel_rfl) | (rw [if_neg (by decide +kernel)]; exact ⟨rfl, rfl⟩))
    (fun os started H enc _ => lifted os started H enc)
theorem plain (f : FuncId) (fn : Func) (hf : Tryz.pinned.checked.prog.funcNamed "metrolab/metrolabtop.TopRingsLines" = some f) (hfn : Tryz.pinned.checked.prog.funcs[f]? = some fn) :
    true = Tryz.pinned.checked.prog.looks [] ∧ ∀ (j : Nat) t, fn.params[j]? = some t → Tryz.pinned.checked.prog.wantsStandIn t = false := by
  obtain rfl : f = 3 := Option.some.inj ((show Tryz.prog.funcNamed "metrolab/metrolabtop.TopRingsLines" = some 3 by kernel_rfl).symm.trans hf) |>.symm
  obtain rfl : fn = Tryz.f3 := (Option.some.inj (Tryz.func3.symm.trans hfn)).symm
  refine ⟨by kernel_rfl, fun j t ht => ?_⟩
  rw [Tryz.params3] at ht
  have hm : t ∈ [22, 24] := by simpa using Array.mem_of_getElem? ht
  have hall : ([22, 24].all fun u => !Tryz.prog.wantsStandIn u) = true := by kernel_rfl
  exact (show Tryz.prog.wantsStandIn t = false by simpa using List.all_eq_true.1 hall t hm)
theorem card : Rows.TopRingsLinesCardSaid :=
  Claim7.holds_tied_plain_at .later [] _ _ _ _ said (fun _ h => by cases h) (by kernel_rfl) (fun _ h => by cases h) topRingsLines_row_tie rfl ⟨rfl, rfl⟩ (by kernel_rfl) rfl plain (by kernel_rfl)
#print axioms card
end Go.Proofs.YtcdjhgkeehhaaaaGreatDoor.topRingsLines
