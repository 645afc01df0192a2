/- THE REFERENCE's SUMS AND DIFFERENCES ON PAPER. -/
import Derived.Test.YtcdjhgkeehhaaaaGreatDoorGC
namespace Go.Proofs.Wk
open Go.RowKit Mt

end Go.Proofs.Wk
/- THE REFERENCE's QUOTIENTS ON PAPER, AND ITS SHORT NUMBERS. -/
namespace Go.Proofs.Wk
open Go.RowKit Mt

/-- 'string([]byte{digit})'. -/
theorem run_one_byte (d : Nat) (hd : d < 10) (W : World) :
    (convert 193 9 (.slice (some ⟨W.heap.size, 0, none⟩) 1 1)).run Tryz.prog (W.alloc (.cells #[.int .u8 (48 + (d : Int))] 5)) = .ok (.string ⟨[ch d].toArray⟩) (W.alloc (.cells #[.int .u8 (48 + (d : Int))] 5)) := by
  refine run_string_row (bs := [ch d]) ?_ rfl 1
  unfold RB
  have : (.int .u8 (48 + (d : Int)) : Value) = .int .u8 ((ch d).toNat : Int) := by rw [ch_toNat hd]; go_num
  rw [this]
  exact heap_alloc_new W _

theorem take_one {l : List UInt8} {i : Nat} (h : i < l.length) : List.take 1 (List.drop i l) = [l[i]] := by
  rw [List.drop_eq_getElem_cons h]; rfl

end Go.Proofs.Wk
/- THE REFERENCE's WHOLE NUMBERS: the check of a text; sums, differences, products and the order of integers. -/
namespace Go.Proofs.Wk
open Go.RowKit Mt

end Go.Proofs.Wk
