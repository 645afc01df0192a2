/- THE REFERENCE's sums, differences, products and the order of integers. -/
import Derived.Test.YtcdjhgkeehhaaaaGreatDoorGD
import Derived.Test.YtcdjhgkeehhaaaaGreatDoorGI
import Derived.Test.YtcdjhgkeehhaaaaGreatDoorGK
namespace Go.Proofs.Wk
open Go.RowKit Mt

end Go.Proofs.Wk
/- THE REFERENCE's WHOLE NUMBERS: quotients, remainders, the greatest common divisor. -/
namespace Go.Proofs.Wk
open Go.RowKit Mt

theorem bne_ne' {x : Int} (h : x ≠ 0) : (x != 0) = true := by rw [bne_iff_ne]; exact h

end Go.Proofs.Wk
/- THE REFERENCE's WHOLE NUMBERS: the greatest common divisor; results or errors of texts. -/
namespace Go.Proofs.Wk
open Go.RowKit Mt

theorem nat_divmod (A B : Nat) (h : B ≠ 0) : (A : Int).fdiv (B : Int) = ((A / B : Nat) : Int) ∧ (A : Int).fmod (B : Int) = ((A % B : Nat) : Int) := by
  have := fl_same (sx := false) (sy := false) (X := A) (Y := B) h (.inr rfl)
  simpa [sg] using this

def fewB (a : Txt) : Bool := decide (a.length ≤ 50) || (decide (a.length ≤ 2048) && (chk a == 3))
end Go.Proofs.Wk
