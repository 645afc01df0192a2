/- PLAIN LAWS: powers and binomials. -/
import Derived.Test.YtjljappilpkelaaGreatDoorMathZ
namespace Go.Proofs.Wk
open Go.RowKit Mt

/-! ### powers -/
theorem one_lt_big : 1 < big := by
  have h : lng 1 ≤ 1024 := Nat.le_trans ((lng_le 1 (k := 1) (by omega)).2 (by decide)) (by omega)
  exact lng_big_iff.1 h
theorem pow_big {a : Int} {i n : Nat} (h : big ≤ (a ^ i).natAbs) (hin : i ≤ n) : big ≤ (a ^ n).natAbs := by
  rw [Int.natAbs_pow] at *
  have h1 := one_lt_big
  by_cases h0 : a.natAbs = 0
  · rw [h0] at h
    rcases i with _ | i
    · simp at h; omega
    · simp at h; omega
  · exact Nat.le_trans h (Nat.pow_le_pow_right (by omega) hin)
theorem kept_ge {n : Int} (h : big ≤ n.natAbs) : kept n = ([], 11) := by unfold kept; rw [if_neg (by omega)]
theorem kept_lt {n : Int} (h : n.natAbs < big) : kept n = (Lib.itoa n, 0) := by unfold kept; rw [if_pos h]

/-! ### binomials -/
def cho : Nat → Nat → Nat
  | _, 0 => 1
  | 0, _ + 1 => 0
  | n + 1, k + 1 => cho n k + cho n (k + 1)
theorem cho_zero (n : Nat) : cho n 0 = 1 := by cases n <;> rfl
theorem cho_succ (n k : Nat) : cho (n + 1) (k + 1) = cho n k + cho n (k + 1) := rfl
theorem cho_gt : ∀ (n k : Nat), n < k → cho n k = 0
  | 0, k + 1, _ => rfl
  | n + 1, 0, h => by omega
  | n + 1, k + 1, h => by rw [cho_succ, cho_gt n k (by omega), cho_gt n (k + 1) (by omega)]
theorem cho_self : ∀ n : Nat, cho n n = 1
  | 0 => rfl
  | n + 1 => by rw [cho_succ, cho_self n, cho_gt n (n + 1) (by omega)]
theorem cho_step : ∀ (n i : Nat), cho n (i + 1) * (i + 1) = cho n i * (n - i)
  | 0, i => by simp [cho]
  | n + 1, 0 => by
    have h := cho_step n 0
    rw [cho_succ, cho_zero, cho_zero] at *
    rw [Nat.add_mul, h]; omega
  | n + 1, j + 1 => by
    have h1 := cho_step n (j + 1)
    have h2 := cho_step n j
    rw [cho_succ n (j + 1), cho_succ n j]
    by_cases hj : j + 1 ≤ n
    · rw [Nat.add_mul, h1, Nat.add_mul]
      rw [show n + 1 - (j + 1) = n - j by omega, ← h2, ← Nat.mul_add, ← Nat.mul_add]
      congr 1; omega
    · rw [cho_gt n (j + 1) (by omega), cho_gt n (j + 1 + 1) (by omega)]
      rw [show n + 1 - (j + 1) = 0 by omega]; simp
theorem cho_le {n i : Nat} (h : 2 * i + 1 ≤ n) : cho n i ≤ cho n (i + 1) := by
  have e := cho_step n i
  have h1 : cho n i * (i + 1) ≤ cho n i * (n - i) := Nat.mul_le_mul_left _ (by omega)
  rw [← e] at h1
  exact Nat.le_of_mul_le_mul_right h1 (by omega)
theorem cho_mono {n i : Nat} : ∀ (d : Nat), 2 * (i + d) ≤ n → cho n i ≤ cho n (i + d)
  | 0, _ => Nat.le_refl _
  | d + 1, h => Nat.le_trans (cho_mono d (by omega)) (cho_le (n := n) (i := i + d) (by omega))
def fact : Nat → Nat
  | 0 => 1
  | n + 1 => (n + 1) * fact n
theorem fact_pos : ∀ n, 0 < fact n
  | 0 => by decide
  | n + 1 => Nat.mul_pos (by omega) (fact_pos n)
theorem cho_fact (n : Nat) : ∀ k, k ≤ n → cho n k * (fact k * fact (n - k)) = fact n
  | 0, _ => by rw [cho_zero]; simp [fact]
  | k + 1, h => by
    have ih := cho_fact n k (by omega)
    have e := cho_step n k
    have e1 : fact (k + 1) = (k + 1) * fact k := rfl
    have e2 : fact (n - k) = (n - k) * fact (n - (k + 1)) := by
      rw [show n - k = (n - (k + 1)) + 1 by omega]; rfl
    rw [e2] at ih
    rw [e1, ← ih]
    calc cho n (k + 1) * ((k + 1) * fact k * fact (n - (k + 1))) = (cho n (k + 1) * (k + 1)) * (fact k * fact (n - (k + 1))) := by simp [Nat.mul_assoc]
      _ = (cho n k * (n - k)) * (fact k * fact (n - (k + 1))) := by rw [e]
      _ = _ := by simp [Nat.mul_assoc, Nat.mul_comm, Nat.mul_left_comm]
theorem cho_sym {n k : Nat} (h : k ≤ n) : cho n (n - k) = cho n k := by
  have h1 := cho_fact n k h
  have h2 := cho_fact n (n - k) (by omega)
  rw [show n - (n - k) = k by omega, Nat.mul_comm (fact (n - k))] at h2
  exact Nat.eq_of_mul_eq_mul_right (Nat.mul_pos (fact_pos k) (fact_pos (n - k))) (h2.trans h1.symm)
theorem cho_min {n k : Nat} (h : k ≤ n) : cho n (min k (n - k)) = cho n k := by
  by_cases hk : k ≤ n - k
  · rw [Nat.min_eq_left hk]
  · rw [Nat.min_eq_right (by omega), cho_sym h]
theorem cho_div {n i : Nat} : cho n i * (n - i) / (i + 1) = cho n (i + 1) := by
  rw [← cho_step]; exact Nat.mul_div_cancel _ (by omega)
theorem cho_pos {n k : Nat} (h : k ≤ n) : 0 < cho n k := by
  have := cho_fact n k h
  rcases Nat.eq_zero_or_pos (cho n k) with h0 | h0
  · rw [h0] at this; have := fact_pos n; omega
  · exact h0
/-- The binomial of ints. -/
def choi (n k : Int) : Int := if 0 ≤ k ∧ k ≤ n then (cho n.toNat k.toNat : Int) else 0
def bino (n k : Int) : Txt × Int := if n < 0 ∨ 4096 < n then ([], 2) else kept (choi n k)
def pow2 (n : Int) (a : Int) : Txt × Int := if n < 0 ∨ 4096 < n then ([], 2) else kept (a ^ n.toNat)
def tot2 (ls : List Txt) : Txt × Int := if 4096 < ls.length then ([], 5) else if firstErr ls = 0 then kept (ls.map val).sum else ([], firstErr ls)
theorem firstErr_zero : ∀ {ls : List Txt}, firstErr ls = 0 → ∀ l ∈ ls, chk l = 0
  | [], _, l, hl => by cases hl
  | a :: t, h, l, hl => by
    unfold firstErr at h
    by_cases ha : chk a = 0
    · rw [if_pos ha] at h
      rcases List.mem_cons.1 hl with rfl | h2
      · exact ha
      · exact firstErr_zero h l h2
    · rw [if_neg ha] at h; exact absurd h ha
theorem map_val {ls : List Txt} (h : ∀ l ∈ ls, chk l = 0) : (ls.map val).map Lib.itoa = ls := by
  rw [List.map_map]
  conv => rhs; rw [← List.map_id ls]
  exact List.map_congr_left fun l hl => (ok_text (h l hl)).1
theorem map_val_big {ls : List Txt} (h : ∀ l ∈ ls, chk l = 0) : ∀ n ∈ ls.map val, n.natAbs < big := by
  intro n hn
  obtain ⟨l, hl, rfl⟩ := List.mem_map.1 hn
  exact (ok_text (h l hl)).2
end Go.Proofs.Wk
