/- PLAIN LAWS: quotients rounded down, greatest common divisors. -/
import Derived.Test.YtjljappilpkelaaGreatDoorMathY
namespace Go.Proofs.Wk
open Go.RowKit Mt

/-- Go's quotient and remainder of (m - r) where r is the remainder of the rounded quotient. -/
theorem exact_quo {m n r : Int} (h0 : n ≠ 0) (hr : m.fmod n = r) : (m - r).tdiv n = m.fdiv n := by
  have h := Int.mul_fdiv_add_fmod m n
  have e : m - r = n * m.fdiv n := by rw [hr] at h; omega
  rw [e, Int.mul_tdiv_cancel_left _ h0]
/-- The remainder of the rounded quotient out of Go's. -/
theorem fmod_add {m n : Int} (h0 : n ≠ 0) (h : m.tmod n ≠ 0 ∧ ((m.tmod n < 0) ≠ (n < 0))) : m.fmod n = m.tmod n + n := ((fl_trunc (m := m) h0).1 h).2
theorem fmod_same {m n : Int} (h0 : n ≠ 0) (h : ¬ (m.tmod n ≠ 0 ∧ ((m.tmod n < 0) ≠ (n < 0)))) : m.fmod n = m.tmod n := ((fl_trunc (m := m) h0).2 h).2
theorem tmod_lt {m n : Int} (h0 : n ≠ 0) : (m.tmod n).natAbs < n.natAbs := by rw [Int.natAbs_tmod]; exact Nat.mod_lt _ (by omega)
theorem fdiv_le {m n : Int} (h0 : n ≠ 0) : (m.fdiv n).natAbs ≤ m.natAbs := by
  by_cases hm : m = 0
  · subst hm; simp
  have e := Int.mul_fdiv_add_fmod m n
  have b : (m.fmod n).natAbs < n.natAbs := by
    by_cases h : m.tmod n ≠ 0 ∧ ((m.tmod n < 0) ≠ (n < 0))
    · rw [fmod_add h0 h]; have := tmod_lt (m := m) h0
      obtain ⟨h1, h2⟩ := h
      by_cases a : m.tmod n < 0 <;> by_cases c : n < 0 <;> simp [a, c] at h2 <;> omega
    · rw [fmod_same h0 h]; exact tmod_lt h0
  by_cases hq : (m.fdiv n).natAbs ≤ 1
  · omega
  · -- |n| |q| ≤ |m| + |r| < |m| + |n|
    have e2 : n * m.fdiv n = m - m.fmod n := by omega
    have e3 : n.natAbs * (m.fdiv n).natAbs = (m - m.fmod n).natAbs := by rw [← Int.natAbs_mul, e2]
    generalize (m.fdiv n).natAbs = q at *
    generalize n.natAbs = k at *
    have : k * q < m.natAbs + k := by omega
    by_cases hk : k ≤ 1
    · have : k = 1 := by omega
      subst this; omega
    · obtain ⟨q', rfl⟩ : ∃ q', q = q' + 2 := ⟨q - 2, by omega⟩
      obtain ⟨k', rfl⟩ : ∃ k', k = k' + 2 := ⟨k - 2, by omega⟩
      have : (k' + 2) * (q' + 2) = (k' + 2) * (q' + 1) + (k' + 2) := by rw [← Nat.mul_succ]
      have h3 : (k' + 2) * (q' + 1) < m.natAbs := by omega
      have h4 : 2 * (q' + 1) ≤ (k' + 2) * (q' + 1) := Nat.mul_le_mul_right _ (by omega)
      omega
theorem fmod_le {m n : Int} (h0 : n ≠ 0) : (m.fmod n).natAbs < n.natAbs := by
  by_cases h : m.tmod n ≠ 0 ∧ ((m.tmod n < 0) ≠ (n < 0))
  · rw [fmod_add h0 h]; have := tmod_lt (m := m) h0
    obtain ⟨h1, h2⟩ := h
    by_cases a : m.tmod n < 0 <;> by_cases c : n < 0 <;> simp [a, c] at h2 <;> omega
  · rw [fmod_same h0 h]; exact tmod_lt h0
/-- The quotient and the remainder of numbers with signs. -/
theorem sub_mul_fdiv (m n : Int) : m - m.fdiv n * n = m.fmod n := by
  have := Int.mul_fdiv_add_fmod m n
  rw [Int.mul_comm]; omega
end Go.Proofs.Wk
