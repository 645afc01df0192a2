/- PLAIN LAWS: signs of rational numbers, and of sums with square roots. -/
import Derived.Test.YtachiilmgnognaaGreatDoorRatB
import Derived.Test.YtachiilmgnognaaGreatDoorGK
namespace Go.Proofs.Wk
open Go.RowKit Mt

theorem lt_zero_iff (p : Rat) : p < 0 ↔ p.num < 0 := by rw [Rat.lt_iff]; simp
theorem zero_lt_iff (p : Rat) : 0 < p ↔ 0 < p.num := by rw [Rat.lt_iff]; simp
theorem sgnQ_spec (p : Rat) : (p < 0 ∧ sgnQ p = -1) ∨ (p = 0 ∧ sgnQ p = 0) ∨ (0 < p ∧ sgnQ p = 1) := by
  unfold sgnQ sgn
  rcases cmp_spec p.num 0 with ⟨h1, h2⟩ | ⟨h1, h2⟩ | ⟨h1, h2⟩
  · exact .inl ⟨(lt_zero_iff p).2 h1, h2⟩
  · exact .inr (.inl ⟨Rat.num_eq_zero.1 h1, h2⟩)
  · exact .inr (.inr ⟨(zero_lt_iff p).2 h1, h2⟩)
theorem sgnQ_neg1 {p : Rat} (h : p < 0) : sgnQ p = -1 := by
  unfold sgnQ; exact sgn_neg ((lt_zero_iff p).1 h)
theorem sgnQ_pos1 {p : Rat} (h : 0 < p) : sgnQ p = 1 := by
  unfold sgnQ; exact sgn_pos ((zero_lt_iff p).1 h)
theorem sgnQ_zero : sgnQ 0 = 0 := sgn_zero
theorem sgnQ_scale {K a : Rat} (hK : 0 < K) : sgnQ (K * a) = sgnQ a := by
  rcases sgnQ_spec a with ⟨h, e⟩ | ⟨h, e⟩ | ⟨h, e⟩
  · rw [e]; exact sgnQ_neg1 ((Rat.mul_neg_iff_of_pos_left hK).2 h)
  · rw [h, Rat.mul_zero]
  · rw [e]; exact sgnQ_pos1 (Rat.mul_pos hK h)
theorem sgnQ_int (n : Int) : sgnQ (n : Rat) = sgn n := rfl
theorem cmpQ_sub (p q : Rat) : cmpQ p q = sgnQ (p - q) := by
  unfold cmpQ
  rcases cmp_spec (p.num * q.den) (q.num * p.den) with ⟨h1, h2⟩ | ⟨h1, h2⟩ | ⟨h1, h2⟩
  · rw [h2]
    have : p < q := (Rat.lt_iff p q).2 h1
    exact (sgnQ_neg1 (by grind)).symm
  · rw [h2]
    have : p = q := Rat.eq_iff_mul_eq_mul.2 h1
    rw [this, Rat.sub_self]; exact sgnQ_zero.symm
  · rw [h2]
    have : q < p := (Rat.lt_iff q p).2 h1
    exact (sgnQ_pos1 (by grind)).symm
theorem num_mul_den (a : Rat) : (a.num : Rat) = a * (a.den : Rat) := by
  have h : (a.den : Rat) ≠ 0 := by
    rw [← Rat.intCast_natCast]; intro e
    exact den_ne a (Rat.intCast_eq_zero_iff.1 e)
  have h2 : (a.num : Rat) / (a.den : Rat) = a := by
    rw [← Rat.intCast_natCast, ← Rat.divInt_eq_div]; exact Rat.num_divInt_den a
  have h3 := Rat.div_mul_cancel (a := (a.num : Rat)) h
  rw [h2] at h3; exact h3.symm
theorem den_pos_rat (a : Rat) : (0 : Rat) < (a.den : Rat) := Rat.natCast_pos.2 a.den_pos

/-- The sign of a + b root c, c not negative. -/
def rootQ (a b c : Rat) : Int := if sgnQ a * (sgnQ b * sgnQ c) ≥ 0 then (if sgnQ a = 0 then sgnQ b * sgnQ c else sgnQ a) else sgnQ a * cmpQ (a * a) (b * b * c)
/-- The sign of a + b root c + d root e. -/
def rootsQ (a b c d e : Rat) : Int := if rootQ a b c * (sgnQ d * sgnQ e) ≥ 0 then (if rootQ a b c = 0 then sgnQ d * sgnQ e else rootQ a b c)
  else rootQ a b c * rootQ (a * a + b * b * c - d * d * e) (2 * (a * b)) c
/-- The same on integers. -/
def rootI (x y r : Int) : Int := if sgn x * (sgn y * sgn r) ≥ 0 then (if sgn x ≠ 0 then sgn x else sgn y * sgn r) else sgn x * sgn (x * x - y * y * r)
def rootsI (x y r z t : Int) : Int := if rootI x y r * (sgn z * sgn t) ≥ 0 then (if rootI x y r = 0 then sgn z * sgn t else rootI x y r)
  else rootI x y r * rootI (x * x + y * y * r - z * z * t) (2 * x * y) r
theorem rootI_scale {x y r : Int} {a b c K : Rat} (hK : 0 < K) (hx : (x : Rat) = K * a) (hy : sgn y = sgnQ b) (hr : sgn r = sgnQ c) (hyr : (y : Rat) * y * r = K * K * (b * b * c)) : rootI x y r = rootQ a b c := by
  have e1 : sgn x = sgnQ a := by rw [← sgnQ_int, hx, sgnQ_scale hK]
  have e2 : sgn (x * x - y * y * r) = cmpQ (a * a) (b * b * c) := by
    rw [cmpQ_sub, ← sgnQ_scale (K := K * K) (a := a * a - b * b * c) (Rat.mul_pos hK hK), ← sgnQ_int]
    congr 1
    rw [Rat.intCast_sub, Rat.intCast_mul, Rat.intCast_mul, Rat.intCast_mul, hyr, hx]
    grind
  unfold rootI rootQ
  rw [e1, e2, hy, hr]
  by_cases h : sgnQ a = 0
  · rw [h]; simp
  · simp [h]
/-- The five products of the program. -/
def scX (a b c d e : Rat) : Int := a.num * b.den * c.den * d.den * e.den
def scY (a b d e : Rat) : Int := b.num * a.den * d.den * e.den
def scR (c : Rat) : Int := c.num * c.den
def scZ (a b c d : Rat) : Int := d.num * a.den * b.den * c.den
theorem scR_sgn (c : Rat) : sgn (scR c) = sgnQ c := by
  unfold scR
  rw [← sgnQ_int, Rat.intCast_mul, num_mul_den, Rat.intCast_natCast, show c * (c.den : Rat) * (c.den : Rat) = ((c.den : Rat) * (c.den : Rat)) * c by grind]
  exact sgnQ_scale (Rat.mul_pos (den_pos_rat c) (den_pos_rat c))
theorem roots_same (a b c d e : Rat) : rootsI (scX a b c d e) (scY a b d e) (scR c) (scZ a b c d) (scR e) = rootsQ a b c d e ∧ rootI (scX a b c d e) (scY a b d e) (scR c) = rootQ a b c := by
  have pa := den_pos_rat a; have pb := den_pos_rat b; have pc := den_pos_rat c; have pd := den_pos_rat d; have pe := den_pos_rat e
  have X : (scX a b c d e : Rat) = (a.den : Rat) * b.den * c.den * d.den * e.den * a := by
    unfold scX; simp only [Rat.intCast_mul, Rat.intCast_natCast, num_mul_den]; grind
  have Y : (scY a b d e : Rat) = (b.den : Rat) * a.den * d.den * e.den * b := by
    unfold scY; simp only [Rat.intCast_mul, Rat.intCast_natCast, num_mul_den]; grind
  have Z : (scZ a b c d : Rat) = (d.den : Rat) * a.den * b.den * c.den * d := by
    unfold scZ; simp only [Rat.intCast_mul, Rat.intCast_natCast, num_mul_den]; grind
  have R : (scR c : Rat) = (c.den : Rat) * c.den * c := by unfold scR; simp only [Rat.intCast_mul, Rat.intCast_natCast, num_mul_den]; grind
  have T : (scR e : Rat) = (e.den : Rat) * e.den * e := by unfold scR; simp only [Rat.intCast_mul, Rat.intCast_natCast, num_mul_den]; grind
  have sy : sgn (scY a b d e) = sgnQ b := by
    rw [← sgnQ_int, Y]; exact sgnQ_scale (Rat.mul_pos (Rat.mul_pos (Rat.mul_pos pb pa) pd) pe)
  have sz : sgn (scZ a b c d) = sgnQ d := by
    rw [← sgnQ_int, Z]; exact sgnQ_scale (Rat.mul_pos (Rat.mul_pos (Rat.mul_pos pd pa) pb) pc)
  have hK : (0 : Rat) < (a.den : Rat) * b.den * c.den * d.den * e.den := Rat.mul_pos (Rat.mul_pos (Rat.mul_pos (Rat.mul_pos pa pb) pc) pd) pe
  have sr := scR_sgn c
  have st := scR_sgn e
  have h1 : rootI (scX a b c d e) (scY a b d e) (scR c) = rootQ a b c := by
    refine rootI_scale hK X sy sr ?_
    rw [Y, R]; grind
  have h2 : rootI (scX a b c d e * scX a b c d e + scY a b d e * scY a b d e * scR c - scZ a b c d * scZ a b c d * scR e) (2 * scX a b c d e * scY a b d e) (scR c) = rootQ (a * a + b * b * c - d * d * e) (2 * (a * b)) c := by
    refine rootI_scale (Rat.mul_pos hK hK) ?_ ?_ sr ?_
    · rw [Rat.intCast_sub, Rat.intCast_add]
      simp only [Rat.intCast_mul]
      rw [X, Y, Z, R, T]; grind
    · rw [← sgnQ_int]
      simp only [Rat.intCast_mul]
      rw [X, Y, show ((2 : Int) : Rat) * ((a.den : Rat) * b.den * c.den * d.den * e.den * a) * ((b.den : Rat) * a.den * d.den * e.den * b)
        = ((a.den : Rat) * b.den * c.den * d.den * e.den * ((b.den : Rat) * a.den * d.den * e.den)) * (2 * (a * b)) by
          rw [show ((2 : Int) : Rat) = 2 from rfl]; grind]
      exact sgnQ_scale (Rat.mul_pos hK (Rat.mul_pos (Rat.mul_pos (Rat.mul_pos pb pa) pd) pe))
    · simp only [Rat.intCast_mul]
      rw [X, Y, R, show ((2 : Int) : Rat) = 2 from rfl]; grind
  refine ⟨?_, h1⟩
  unfold rootsI rootsQ
  rw [h1, h2, sz, st]
end Go.Proofs.Wk
