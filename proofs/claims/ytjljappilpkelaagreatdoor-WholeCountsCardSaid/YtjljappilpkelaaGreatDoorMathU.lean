/- PLAIN LAWS: sums of binomials; lengths of powers. -/
import Derived.Test.YtjljappilpkelaaGreatDoorMathV
namespace Go.Proofs.Wk
open Go.RowKit Mt

theorem cho_le_pow : ∀ n k : Nat, cho n k ≤ 2 ^ n
  | n, 0 => by rw [cho_zero]; exact Nat.one_le_two_pow
  | 0, k + 1 => by simp [cho]
  | n + 1, k + 1 => by
    rw [cho_succ, Nat.pow_succ]
    have h1 := cho_le_pow n k
    have h2 := cho_le_pow n (k + 1)
    omega
def choSum (n k : Nat) : Nat := ((List.range k).map (cho n)).sum
theorem choSum_succ (n k : Nat) : choSum n (k + 1) = choSum n k + cho n k := by
  unfold choSum; rw [List.range_succ, List.map_append, List.sum_append]; simp
theorem choSum_step (n : Nat) : ∀ k, choSum (n + 1) (k + 1) = choSum n (k + 1) + choSum n k
  | 0 => by rw [choSum_succ, choSum_succ, cho_zero, cho_zero]; rfl
  | k + 1 => by
    rw [choSum_succ, choSum_step n k, choSum_succ n (k + 1), choSum_succ n k, cho_succ]; omega
theorem choSum_all : ∀ n, choSum n (n + 1) = 2 ^ n
  | 0 => rfl
  | n + 1 => by
    rw [choSum_step, choSum_succ n (n + 1), cho_gt n (n + 1) (by omega), Nat.pow_succ, Nat.add_zero, choSum_all n]; omega
theorem choi_pascal {m : Nat} {j : Int} (hj : 0 ≤ j) : choi (1 + (m : Int)) j = choi m j + choi m (j - 1) := by
  obtain ⟨k, rfl⟩ : ∃ k : Nat, j = k := ⟨j.toNat, by omega⟩
  unfold choi
  rw [show ((1 : Int) + m).toNat = m + 1 by omega, Int.toNat_natCast, Int.toNat_natCast]
  rcases k with _ | k
  · rw [cho_zero, if_pos (by omega), if_pos (by omega), if_neg (by omega)]; simp [cho_zero]
  · rw [show ((k + 1 : Nat) : Int) - 1 = (k : Int) by omega, Int.toNat_natCast, cho_succ]
    by_cases h1 : k + 1 ≤ m
    · rw [if_pos (by omega), if_pos (by omega), if_pos (by omega)]; omega
    · by_cases h2 : k ≤ m
      · rw [if_pos (by omega), if_neg (by omega), if_pos (by omega), cho_gt m (k + 1) (by omega)]; omega
      · rw [if_neg (by omega), if_neg (by omega), if_neg (by omega)]; rfl
theorem choi_sym {m j : Int} (hm : 0 ≤ m) : choi m (m - j) = choi m j := by
  unfold choi
  by_cases h : 0 ≤ j ∧ j ≤ m
  · rw [if_pos h, if_pos (by omega), show (m - j).toNat = m.toNat - j.toNat by omega, cho_sym (by omega)]
  · rw [if_neg h, if_neg (by omega)]
theorem choi_bd {m j : Int} : 0 ≤ choi m j ∧ choi m j ≤ 2 ^ m.toNat := by
  unfold choi
  split
  · have := cho_le_pow m.toNat j.toNat
    have h2 : ((2 ^ m.toNat : Nat) : Int) = (2 : Int) ^ m.toNat := by simp
    omega
  · have : (0 : Int) ≤ 2 ^ m.toNat := Int.le_of_lt (Int.pow_pos (by omega))
    omega
theorem lng_pow {a : Int} {k : Nat} (h : lng a ≤ k) : ∀ n : Nat, lng (a ^ n) ≤ k * n + 1
  | 0 => by rw [Int.pow_zero]; exact (lng_le 1 (by omega)).2 (by simp)
  | n + 1 => by
    rw [Int.pow_succ]
    have := lng_mul _ a (lng_pow h n) h
    rw [Nat.mul_succ]; omega
theorem pow60 {m : Nat} (h : m ≤ 60) : (2 : Int) ^ m ≤ 2000000000000000000 := by
  have h1 : (2 : Nat) ^ m ≤ 2 ^ 60 := Nat.pow_le_pow_right (by omega) h
  have h2 : ((2 ^ m : Nat) : Int) = (2 : Int) ^ m := by simp
  have h3 : (2 : Nat) ^ 60 = 1152921504606846976 := by decide
  omega
end Go.Proofs.Wk
