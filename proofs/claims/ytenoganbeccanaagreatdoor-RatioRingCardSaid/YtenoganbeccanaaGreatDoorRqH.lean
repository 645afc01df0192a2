/- THE REFERENCE's RATIONAL NUMBERS: signs of sums with square roots, sums of lists. -/
import Derived.Test.YtenoganbeccanaaGreatDoorHE
import Derived.Test.YtenoganbeccanaaGreatDoorHB
import Derived.LoopN
namespace Go.Proofs.Wk
open Go.RowKit Mt

theorem sgnQ_bd (p : Rat) : -1 ≤ sgnQ p ∧ sgnQ p ≤ 1 := by rcases sgnQ_spec p with ⟨-, h⟩ | ⟨-, h⟩ | ⟨-, h⟩ <;> rw [h] <;> omega
theorem cmpQ_bd (p q : Rat) : -1 ≤ cmpQ p q ∧ cmpQ p q ≤ 1 := by rw [cmpQ_sub]; exact sgnQ_bd _
theorem mul_bd1 {a b : Int} (ha : -1 ≤ a ∧ a ≤ 1) (hb : -1 ≤ b ∧ b ≤ 1) : -1 ≤ a * b ∧ a * b ≤ 1 := by
  have h1 : a = -1 ∨ a = 0 ∨ a = 1 := by omega
  rcases h1 with rfl | rfl | rfl <;> omega
theorem rootQ_bd (a b c : Rat) : -1 ≤ rootQ a b c ∧ rootQ a b c ≤ 1 := by
  unfold rootQ
  split
  · split
    · exact mul_bd1 (sgnQ_bd b) (sgnQ_bd c)
    · exact sgnQ_bd a
  · exact mul_bd1 (sgnQ_bd a) (cmpQ_bd _ _)
theorem rootsQ_bd (a b c d e : Rat) : -1 ≤ rootsQ a b c d e ∧ rootsQ a b c d e ≤ 1 := by
  unfold rootsQ
  split
  · split
    · exact mul_bd1 (sgnQ_bd d) (sgnQ_bd e)
    · exact rootQ_bd a b c
  · exact mul_bd1 (rootQ_bd a b c) (rootQ_bd _ _ _)
theorem beq_no {x : Int} (h : x ≠ 0) : (x == 0) = false := by rw [beq_eq_false_iff_ne]; exact h
theorem rtoa_two : rtoa 2 = [50] := by
  unfold rtoa; rw [if_pos (show (2 : Rat).den = 1 from rfl)]
  exact itoa_val (l := [50]) (by decide)
theorem szQ_two : szQ 2 1 := ⟨(lng_le 2 (k := 1) (by omega)).2 (by decide), (lng_le 1 (k := 1) (by omega)).2 (by decide)⟩
theorem rdrop {ls : List Txt} {i : Nat} (h : i < ls.length) : firstR (ls.drop i) = if rchk ls[i] = 0 then firstR (ls.drop (i + 1)) else rchk ls[i] := by
  rw [List.drop_eq_getElem_cons h]; rfl
end Go.Proofs.Wk
