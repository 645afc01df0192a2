/- THE LAWS RatioChecks, RatioMakes, RatioComputes: they return true at all texts. -/
import Derived.Test.YtenoganbeccanaaGreatDoorL2A
import Derived.Test.YtenoganbeccanaaGreatDoorGO
import Derived.Test.YtenoganbeccanaaGreatDoorRqI
namespace Go.Proofs.Wk
open Go.RowKit Mt

theorem run1_bd {α : Type} {z : α} {f : Rat → α × Int} (hf : ∀ q, 0 ≤ (f q).2 ∧ (f q).2 ≤ 11) (a : Txt) : 0 ≤ (run1 z f a).2 ∧ (run1 z f a).2 ≤ 11 := by
  unfold run1; split
  · exact hf _
  · exact rchk_range a
theorem rbin_bd {α : Type} {z : α} {f : Rat → Rat → α × Int} (hf : ∀ p q, 0 ≤ (f p q).2 ∧ (f p q).2 ≤ 11) (a b : Txt) : 0 ≤ (rbin z f a b).2 ∧ (rbin z f a b).2 ≤ 11 := by
  unfold rbin; split
  · exact hf _ _
  · exact firstR_range _
end Go.Proofs.Wk
