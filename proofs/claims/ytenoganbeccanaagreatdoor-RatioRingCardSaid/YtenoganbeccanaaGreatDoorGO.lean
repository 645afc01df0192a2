/- THE REFERENCE's WHOLE NUMBERS: ints of texts, powers, sums of lists. -/
import Derived.Test.YtenoganbeccanaaGreatDoorGN
import Derived.Test.YtenoganbeccanaaGreatDoorGI
import Derived.Test.YtenoganbeccanaaGreatDoorGL
import Derived.LoopN
import Derived.Deep.RegionHeld3
import Derived.Deep.AppendLies
namespace Go.Proofs.Wk
open Go.RowKit Mt

theorem lng_i64' (m : Int) (h0 : -9223372036854775808 ≤ m) (h1 : m ≤ 9223372036854775807) : lng m ≤ 19 := by
  unfold lng; exact dec_int64 (by omega)
theorem nat_take_le (a : Txt) (i : Nat) : nat (a.take i) ≤ nat a := by
  conv => rhs; rw [← List.take_append_drop i a, nat_append]
  exact Nat.le_trans (Nat.le_mul_of_pos_right _ (Nat.pow_pos (by omega))) (Nat.le_add_right _ _)
theorem cmp_gt0 {m n : Int} : (0 < cmp m n) ↔ n < m := by have := cmp_spec m n; omega
theorem cmp_lt0 {m n : Int} : (cmp m n < 0) ↔ m < n := by have := cmp_spec m n; omega
theorem lng_max : lng 9223372036854775807 ≤ 10000 := Nat.le_trans (lng_i64' 9223372036854775807 (by omega) (by omega)) (by omega)
theorem lng_min : lng (-9223372036854775808) ≤ 10000 := Nat.le_trans (lng_i64' (-9223372036854775808) (by omega) (by omega)) (by omega)

end Go.Proofs.Wk
/- THE REFERENCE's WHOLE NUMBERS: ints of texts, powers, sums of lists. -/
namespace Go.Proofs.Wk
open Go.RowKit Mt


end Go.Proofs.Wk
/- THE REFERENCE's WHOLE NUMBERS: sums of lists. -/
namespace Go.Proofs.Wk
open Go.RowKit Mt


theorem kept_zero' : kept 0 = ([48], 0) := by rw [kept_small (by omega) (by omega), itoa_zero]
end Go.Proofs.Wk
/- THE REFERENCE's WHOLE NUMBERS: binomials by the triangle of Pascal. -/
namespace Go.Proofs.Wk
open Go.RowKit Mt

theorem OwT.parts {e : TypeId} {w : World} {base : Nat} {v : Value} {ls : List Txt} (h : OwT e w base v ls) (h0 : 0 < ls.length) :
    ∃ g cap, v = .slice (some ⟨g, 0, none⟩) ls.length cap ∧ base ≤ g ∧ g < w.heap.size ∧ RS w g 0 ls := by
  have h' := h
  obtain ⟨h1, h2⟩ := h
  rcases h2 with ⟨rfl, h2⟩ | ⟨g, cap, cur, rfl, e2, e3, e4, e5, e6, e7⟩
  · omega
  · refine ⟨g, cap, rfl, e2, (Array.getElem?_eq_some_iff.1 e3).1, fun j hj => ?_⟩
    rw [Nat.zero_add, cell_of_row w g j _ _ _ e3]
    have : (cur.toList.take (ls.length * 1))[j]? = (ls.map txt)[j]? := by rw [e7]
    rw [List.getElem?_take, if_pos (by omega)] at this
    simpa [hj] using this

/-- The first k texts of row m of the triangle. -/
def crow (m k : Nat) : List Txt := (List.range k).map fun j => Lib.itoa (cho m j)
theorem crow_len (m k : Nat) : (crow m k).length = k := by simp [crow]
theorem crow_succ (m k : Nat) : crow m (k + 1) = crow m k ++ [Lib.itoa (cho m k)] := by unfold crow; rw [List.range_succ, List.map_append]; rfl
theorem crow_at (m k j : Nat) (h : j < (crow m k).length) : (crow m k)[j] = Lib.itoa (cho m j) := by simp [crow]
theorem crow_one (m : Nat) : crow m 1 = [[49]] := by
  unfold crow
  rw [show List.range 1 = [0] from rfl]
  simp [cho_zero]
  exact itoa_one
theorem lng_cho {m k : Nat} (h : m ≤ 4096) : lng (cho m k : Int) ≤ 4097 := by
  refine Nat.le_trans (lng_mono (n := (2 : Int) ^ m) ?_) ?_
  · rw [Int.natAbs_pow]
    exact cho_le_pow m k
  · have := lng_pow (a := 2) (k := 1) ((lng_le 2 (by omega)).2 (by decide)) m
    omega
end Go.Proofs.Wk
/- THE REFERENCE's WHOLE NUMBERS: binomials. -/
namespace Go.Proofs.Wk
open Go.RowKit Mt

end Go.Proofs.Wk
