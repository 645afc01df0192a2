/- 'metrolablaw02.RatioRing' returns true at all arguments, and leaves what was there as it was: the tied card.
   The conditions: the listed package-level variables begin as the program's text lays them (tied); each text and slice takes at most the form's reach. -/
import Derived.Test.YtenoganbeccanaaGreatDoorCards
import Derived.Test.YtenoganbeccanaaGreatDoorTie
import Derived.Test.YtenoganbeccanaaGreatDoorLay
import Derived.Test.YtenoganbeccanaaGreatDoorL2J
import Derived.SevenTiedAt
import Derived.ChangeMaps5
namespace Go.Proofs.YtenoganbeccanaaGreatDoor.ratioRing
open Go.ChangeShapes Go.WideShapes Go.ChangeAt Go.RowKit Go.ChangeMaps
theorem own : ownKnob Tryz.prog.godebug = none := by kernel_rfl
theorem laidOut : laidOutB Tryz.prog = true := by kernel_rfl
theorem reach : reachBytes ≤ 140737488355328 := by decide
theorem good {W : World} (h : laidMetH Tryz.prog Rows.ratioRingRow.laid W) : Wk.Good W := by
  rw [MakeChecks.laidMetH_plain _ _ _ (by kernel_rfl)] at h
  exact Wk.good_of_laid (text := [118, 97, 108, 117, 101, 32, 111, 117, 116, 32, 111, 102, 32, 114, 97, 110, 103, 101]) h (by kernel_rfl) (by kernel_rfl)
set_option maxRecDepth 100000 in
theorem lifted (os : Os) (started : os.Started) (H : Type) (enc : TypeId × Value → H) :
    ReturnsInHanded {} Tryz.checked os 3 .any (fun w args => (Rows.ratioRingSpec.pre enc Tryz.prog Tryz.f3 Rows.ratioRingRow.domain false w args ∧ laidMetH Tryz.prog Rows.ratioRingRow.laid w) ∧ sizedMet enc Tryz.prog Tryz.f3 (OpenSpec.ofChange Rows.ratioRingSpec) false w args)
      (Rows.ratioRingSpec.post enc Tryz.prog Tryz.f3 false true false false) := by
  refine returnsInHanded_of_change_and (C := Tryz.checked) (X := fun w _ => laidMetH Tryz.prog Rows.ratioRingRow.laid w) (fun _ _ _ hh h => h.of_heap hh) own started (by kernel_rfl) Tryz.func3
    (ChangeSpec.witness_shaped (enc := enc) (C := Tryz.checked) (os := os) (X := fun w _ => laidMetH Tryz.prog Rows.ratioRingRow.laid w) false (World.laidAll Tryz.prog os Rows.ratioRingRow.laid) #[.string ⟨#[]⟩, .string ⟨#[]⟩, .string ⟨#[]⟩] 8 (World.laidAll_os _ _ _)
      (World.shaped_of_ZipB (by kernel_rfl) (by kernel_rfl)) (by kernel_rfl) (by kernel_rfl) (by kernel_rfl)
      (by rw [MakeChecks.laidMetH_plain _ _ _ (by kernel_rfl)]; exact laidMet_laidAll _ (by kernel_rfl) (by kernel_rfl))) ?_
  intro W base args ds gs before hval0 hW _ hsz hL _
  have hval : ∀ (j : Nat) t v, Tryz.f3.params[j]? = some t → args[j]? = some v → Value.okWide Tryz.prog W .any base t v := hval0
  have hW' := hW
  obtain ⟨p, q, hA0, hV, rfl, hfz, hnd⟩ := hW
  have hA : DataW.TrodAll enc Tryz.prog W 0 (fun _ => true) true Tryz.f3.params.toList args.toList ds p := hA0
  rw [Tryz.params3] at hA hval hsz
  obtain ⟨v0, vs0, d0, ds0, p0, q0, hargs, rfl, rfl, h0, r0⟩ := trodAll_cons hA
  obtain ⟨v1, vs1, d1, ds1, p1, q1, rfl, rfl, rfl, h1, r1⟩ := trodAll_cons r0
  obtain ⟨v2, vs2, d2, ds2, p2, q2, rfl, rfl, rfl, h2, r2⟩ := trodAll_cons r1
  obtain ⟨rfl, rfl, rfl⟩ := trodAll_nil r2
  obtain rfl : args = #[v0, v1, v2] := by cases args; simp_all
  obtain ⟨rfl, rfl⟩ := trodVars_none hV
  have hlt := hW'.lt
  obtain ⟨s0, rfl, rfl, rfl, -⟩ := open_string Tryz.underlying22 (hval 0 22 v0 rfl rfl) h0
  have z0 : s0.data.toList.length ≤ 140737488355328 := Nat.le_trans (sized_string hsz (j := 0) (t := 22) rfl rfl) reach
  obtain ⟨a0, rfl⟩ : ∃ a : List UInt8, s0 = ⟨a.toArray⟩ := ⟨s0.data.toList, by cases s0; rfl⟩
  replace z0 : a0.length ≤ 140737488355328 := z0
  obtain ⟨s1, rfl, rfl, rfl, -⟩ := open_string Tryz.underlying22 (hval 1 22 v1 rfl rfl) h1
  have z1 : s1.data.toList.length ≤ 140737488355328 := Nat.le_trans (sized_string hsz (j := 1) (t := 22) rfl rfl) reach
  obtain ⟨a1, rfl⟩ : ∃ a : List UInt8, s1 = ⟨a.toArray⟩ := ⟨s1.data.toList, by cases s1; rfl⟩
  replace z1 : a1.length ≤ 140737488355328 := z1
  obtain ⟨s2, rfl, rfl, rfl, -⟩ := open_string Tryz.underlying22 (hval 2 22 v2 rfl rfl) h2
  have z2 : s2.data.toList.length ≤ 140737488355328 := Nat.le_trans (sized_string hsz (j := 2) (t := 22) rfl rfl) reach
  obtain ⟨a2, rfl⟩ : ∃ a : List UInt8, s2 = ⟨a.toArray⟩ := ⟨s2.data.toList, by cases s2; rfl⟩
  replace z2 : a2.length ≤ 140737488355328 := z2
  clear hA0
  refine (Wk.ring_c a0 a1 a2 W (good hL) z0 z1 z2).mono fun e W' ⟨he, hb⟩ => ?_
  subst he
  exact ⟨_, rfl, Wk.law_post hW' rfl rfl (by kernel_rfl) Tryz.underlying4 laidOut (by kernel_rfl) hb⟩
theorem said : Rows.RatioRingSaid :=
  OpenClaim.holds_of_wide 3 Tryz.f3 rfl rfl rfl rfl rfl rfl rfl ⟨rfl, rfl, rfl, rfl, rfl⟩ rfl rfl rfl rfl rfl (by kernel_rfl) Tryz.func3 (by kernel_rfl)
    (of_decide_eq_true (by kernel_rfl)) (by unfold Func.isWrapper; first | (rw [if_pos (by decide +kernel)]; kernel_rfl) | (rw [if_neg (by decide +kernel)]; exact ⟨rfl, rfl⟩))
    (fun os started H enc _ => lifted os started H enc)
theorem plain (f : FuncId) (fn : Func) (hf : Tryz.pinned.checked.prog.funcNamed "metrolab/metrolablaw02.RatioRing" = some f) (hfn : Tryz.pinned.checked.prog.funcs[f]? = some fn) :
    true = Tryz.pinned.checked.prog.looks [] ∧ ∀ (j : Nat) t, fn.params[j]? = some t → Tryz.pinned.checked.prog.wantsStandIn t = false := by
  obtain rfl : f = 3 := Option.some.inj ((show Tryz.prog.funcNamed "metrolab/metrolablaw02.RatioRing" = some 3 by kernel_rfl).symm.trans hf) |>.symm
  obtain rfl : fn = Tryz.f3 := (Option.some.inj (Tryz.func3.symm.trans hfn)).symm
  refine ⟨by kernel_rfl, fun j t ht => ?_⟩
  rw [Tryz.params3] at ht
  have hm : t ∈ [22, 22, 22] := by simpa using Array.mem_of_getElem? ht
  have hall : ([22, 22, 22].all fun u => !Tryz.prog.wantsStandIn u) = true := by kernel_rfl
  exact (show Tryz.prog.wantsStandIn t = false by simpa using List.all_eq_true.1 hall t hm)
theorem card : Rows.RatioRingCardSaid :=
  Claim7.holds_tied_plain_at .later [] _ _ _ _ said (fun _ h => by cases h) (by kernel_rfl) (fun _ h => by cases h) ratioRing_row_tie rfl ⟨rfl, rfl⟩ (by kernel_rfl) rfl plain (by kernel_rfl)
#print axioms card
end Go.Proofs.YtenoganbeccanaaGreatDoor.ratioRing
