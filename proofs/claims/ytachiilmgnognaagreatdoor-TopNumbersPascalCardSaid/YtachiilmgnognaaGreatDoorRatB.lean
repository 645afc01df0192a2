/- PLAIN LAWS: arithmetic of rational numbers, with an error where a number is too large. -/
import Derived.Test.YtachiilmgnognaaGreatDoorRatA
namespace Go.Proofs.Wk
open Go.RowKit Mt

theorem den_ne (q : Rat) : (q.den : Int) ≠ 0 := by have := q.den_pos; omega
theorem den_pos' (q : Rat) : 0 < (q.den : Int) := by have := q.den_pos; omega
theorem add_divInt (p q : Rat) : Rat.divInt (p.num * q.den + q.num * p.den) (p.den * q.den) = p + q := by
  conv => rhs; rw [← Rat.num_divInt_den p, ← Rat.num_divInt_den q, Rat.divInt_add_divInt _ _ (den_ne p) (den_ne q)]
theorem sub_divInt (p q : Rat) : Rat.divInt (p.num * q.den - q.num * p.den) (p.den * q.den) = p - q := by
  conv => rhs; rw [← Rat.num_divInt_den p, ← Rat.num_divInt_den q, Rat.divInt_sub_divInt _ _ (den_ne p) (den_ne q)]
theorem mul_divInt (p q : Rat) : Rat.divInt (p.num * q.num) (p.den * q.den) = p * q := by
  conv => rhs; rw [← Rat.num_divInt_den p, ← Rat.num_divInt_den q, Rat.divInt_mul_divInt]
theorem div_divInt (p q : Rat) : Rat.divInt (p.num * q.den) (p.den * q.num) = p / q := by
  conv => rhs; rw [Rat.div_def, ← Rat.num_divInt_den p, ← Rat.num_divInt_den q, Rat.inv_divInt, Rat.divInt_mul_divInt]

/-- The value of a text. -/
def rv (l : Txt) : Rat := Rat.divInt (val (rnum l)) (val (rden l))
theorem rv_rtoa (q : Rat) : rv (rtoa q) = q := by unfold rv; rw [rnum_rtoa, rden_rtoa, val_itoa, val_itoa, Rat.num_divInt_den]
/-- The first error of texts. -/
def firstR : List Txt → Int
  | [] => 0
  | a :: t => if rchk a = 0 then firstR t else rchk a
theorem rchk_range (a : Txt) : 0 ≤ rchk a ∧ rchk a ≤ 11 := by rcases rchk_cases a with h | h | h <;> rw [h] <;> omega
theorem firstR_range : ∀ l, 0 ≤ firstR l ∧ firstR l ≤ 11
  | [] => by decide
  | a :: t => by
    unfold firstR; split
    · exact firstR_range t
    · exact rchk_range a
theorem firstR_zero {l : List Txt} (h : firstR l = 0) : ∃ qs : List Rat, l = qs.map rtoa ∧ ∀ q ∈ qs, okQ q := by
  induction l with
  | nil => exact ⟨[], rfl, by simp⟩
  | cons a t ih =>
    unfold firstR at h
    by_cases h1 : rchk a = 0
    · rw [if_pos h1] at h
      obtain ⟨qs, e, hq⟩ := ih h
      obtain ⟨q, e1, hq1⟩ := rchk_zero h1
      refine ⟨q :: qs, by rw [List.map_cons, ← e, ← e1], fun x hx => ?_⟩
      rcases List.mem_cons.1 hx with rfl | hx
      · exact hq1
      · exact hq x hx
    · rw [if_neg h1] at h; exact absurd h h1
theorem firstR_ok {qs : List Rat} (h : ∀ q ∈ qs, okQ q) : firstR (qs.map rtoa) = 0 := by
  induction qs with
  | nil => rfl
  | cons q t ih =>
    rw [List.map_cons]; unfold firstR
    rw [if_pos (rchk_rtoa (h q (by simp)))]
    exact ih fun x hx => h x (by simp [hx])

/-- An operation on two texts: the first error, or what the numbers give. -/
def rbin {α : Type} (z : α) (f : Rat → Rat → α × Int) (a b : Txt) : α × Int := if firstR [a, b] = 0 then f (rv a) (rv b) else (z, firstR [a, b])
def run1 {α : Type} (z : α) (f : Rat → α × Int) (a : Txt) : α × Int := if rchk a = 0 then f (rv a) else (z, rchk a)
theorem rbin_cases (a b : Txt) : (firstR [a, b] ≠ 0 ∧ ∀ {α : Type} (z : α) f, rbin z f a b = (z, firstR [a, b])) ∨
    ∃ p q : Rat, a = rtoa p ∧ b = rtoa q ∧ okQ p ∧ okQ q ∧ firstR [rtoa p, rtoa q] = 0 ∧ ∀ {α : Type} (z : α) f, rbin z f (rtoa p) (rtoa q) = f p q := by
  by_cases h : firstR [a, b] = 0
  · refine .inr ?_
    obtain ⟨qs, e, hq⟩ := firstR_zero h
    match qs, e with
    | [p, q], e =>
      simp only [List.map_cons, List.map_nil, List.cons.injEq, and_true] at e
      obtain ⟨rfl, rfl⟩ := e
      refine ⟨p, q, rfl, rfl, hq p (by simp), hq q (by simp), h, fun z f => ?_⟩
      unfold rbin
      rw [if_pos h, rv_rtoa, rv_rtoa]
  · refine .inl ⟨h, fun z f => ?_⟩
    unfold rbin; rw [if_neg h]
theorem run1_cases (a : Txt) : (rchk a ≠ 0 ∧ ∀ {α : Type} (z : α) f, run1 z f a = (z, rchk a)) ∨
    ∃ p : Rat, a = rtoa p ∧ okQ p ∧ rchk (rtoa p) = 0 ∧ ∀ {α : Type} (z : α) f, run1 z f (rtoa p) = f p := by
  by_cases h : rchk a = 0
  · obtain ⟨p, rfl, hp⟩ := rchk_zero h
    refine .inr ⟨p, rfl, hp, h, fun z f => ?_⟩
    unfold run1; rw [if_pos h, rv_rtoa]
  · refine .inl ⟨h, fun z f => ?_⟩
    unfold run1; rw [if_neg h]

/-- Integers that are all short enough. -/
def allB (l : List Int) : Bool := l.all fun n => decide (n.natAbs < big)
theorem allB_cons (n : Int) (l : List Int) : allB (n :: l) = (decide (n.natAbs < big) && allB l) := rfl
def addQ (p q : Rat) : Txt × Int := if allB [p.num * q.den, q.num * p.den, p.den * q.den, p.num * q.den + q.num * p.den] = true then (rtoa (p + q), 0) else ([], 11)
def subQ (p q : Rat) : Txt × Int := if allB [p.num * q.den, q.num * p.den, p.den * q.den, p.num * q.den - q.num * p.den] = true then (rtoa (p - q), 0) else ([], 11)
def mulQ (p q : Rat) : Txt × Int := if allB [p.den * q.den, p.num * q.num] = true then (rtoa (p * q), 0) else ([], 11)
def divQ (p q : Rat) : Txt × Int := if q = 0 then ([], 10) else if allB [p.num * q.den, p.den * q.num] = true then (rtoa (p / q), 0) else ([], 11)
def cmpQ (p q : Rat) : Int := cmp (p.num * q.den) (q.num * p.den)
def cmpE (p q : Rat) : Int × Int := if allB [p.num * q.den, q.num * p.den] = true then (cmpQ p q, 0) else (0, 11)
def sgnQ (p : Rat) : Int := sgn p.num
/-- The quotient of two texts of integers. -/
def makQ (m n : Int) : Txt × Int := if n = 0 then ([], 10) else (rtoa (Rat.divInt m n), 0)
theorem rtoa_zero : rtoa 0 = [48] := by unfold rtoa; rw [if_pos (show (0 : Rat).den = 1 from rfl)]; exact itoa_zero
theorem rtoa_is_zero {q : Rat} : (rtoa q == [48]) = decide (q = 0) := by
  by_cases h : q = 0
  · subst h; rw [rtoa_zero]; rfl
  · rw [decide_eq_false h, beq_eq_false_iff_ne, ← rtoa_zero]
    exact fun e => h (rtoa_inj e)
end Go.Proofs.Wk
