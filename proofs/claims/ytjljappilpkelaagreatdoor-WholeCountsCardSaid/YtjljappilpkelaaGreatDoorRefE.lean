/- THE REFERENCE's WHOLE NUMBERS: the check of a text; sums, differences, products and the order of integers. -/
import Derived.Test.YtjljappilpkelaaGreatDoorRefC
import Derived.Test.YtjljappilpkelaaGreatDoorRefD
namespace Go.Proofs.Wk
open Go.RowKit Mt

theorem size_i (m : Int) (w : World) : Calls Tryz.prog 58 #[.string ⟨(Lib.itoa m).toArray⟩] w (Pur w (.string ⟨(Lib.decDigits m.natAbs).toArray⟩)) := by
  have h := size_c (Lib.itoa m) w
  rwa [body_itoa] at h
theorem Below_i (m : Int) (w : World) : Calls Tryz.prog 59 #[.string ⟨(Lib.itoa m).toArray⟩] w (Pur w (.bool (decide (m < 0)))) := by
  have h := Below_c (Lib.itoa m) w (itoa_ne_nil m)
  rwa [neg_itoa] at h

end Go.Proofs.Wk
