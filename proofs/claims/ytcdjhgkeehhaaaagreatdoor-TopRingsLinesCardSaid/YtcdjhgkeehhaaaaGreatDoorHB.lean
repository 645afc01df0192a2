/- PLAIN LAWS: signs of rational numbers, and of sums with square roots. -/
import Derived.Test.YtcdjhgkeehhaaaaGreatDoorHA
import Derived.Test.YtcdjhgkeehhaaaaGreatDoorGK
namespace Go.Proofs.Wk
open Go.RowKit Mt

theorem lt_zero_iff (p : Rat) : p < 0 ↔ p.num < 0 := by rw [Rat.lt_iff]; simp
theorem zero_lt_iff (p : Rat) : 0 < p ↔ 0 < p.num := by rw [Rat.lt_iff]; simp
theorem sgnQ_spec (p : Rat) : (p < 0 ∧ sgnQ p = -1) ∨ (p = 0 ∧ sgnQ p = 0) ∨ (0 < p ∧ sgnQ p = 1) := by
  unfold sgnQ sgn
  rcases cmp_spec p.num 0 with ⟨h1, h2⟩ | ⟨h1, h2⟩ | ⟨h1, h2⟩
  · exact .inl ⟨(lt_zero_iff p).2 h1, h2⟩
  · exact .inr (.inl ⟨Rat.num_eq_zero.1 h1, h2⟩)
  · exact .inr (.inr ⟨(zero_lt_iff p).2 h1, h2⟩)
theorem sgnQ_neg1 {p : Rat} (h : p < 0) : sgnQ p = -1 := by
  unfold sgnQ; exact sgn_neg ((lt_zero_iff p).1 h)
theorem sgnQ_pos1 {p : Rat} (h : 0 < p) : sgnQ p = 1 := by
  unfold sgnQ; exact sgn_pos ((zero_lt_iff p).1 h)
theorem sgnQ_zero : sgnQ 0 = 0 := sgn_zero
theorem sgnQ_scale {K a : Rat} (hK : 0 < K) : sgnQ (K * a) = sgnQ a := by
  rcases sgnQ_spec a with ⟨h, e⟩ | ⟨h, e⟩ | ⟨h, e⟩
  · rw [e]; exact sgnQ_neg1 ((Rat.mul_neg_iff_of_pos_left hK).2 h)
  · rw [h, Rat.mul_zero]
  · rw [e]; exact sgnQ_pos1 (Rat.mul_pos hK h)
theorem sgnQ_int (n : Int) : sgnQ (n : Rat) = sgn n := rfl
theorem cmpQ_sub (p q : Rat) : cmpQ p q = sgnQ (p - q) := by
  unfold cmpQ
  rcases cmp_spec (p.num * q.den) (q.num * p.den) with ⟨h1, h2⟩ | ⟨h1, h2⟩ | ⟨h1, h2⟩
  · rw [h2]
    have : p < q := (Rat.lt_iff p q).2 h1
    exact (sgnQ_neg1 (by grind)).symm
  · rw [h2]
    have : p = q := Rat.eq_iff_mul_eq_mul.2 h1
    rw [this, Rat.sub_self]; exact sgnQ_zero.symm
  · rw [h2]
    have : q < p := (Rat.lt_iff q p).2 h1
    exact (sgnQ_pos1 (by grind)).symm
theorem num_mul_den (a : Rat) : (a.num : Rat) = a * (a.den : Rat) := by
  have h : (a.den : Rat) ≠ 0 := by
    rw [← Rat.intCast_natCast]; intro e
    exact den_ne a (Rat.intCast_eq_zero_iff.1 e)
  have h2 : (a.num : Rat) / (a.den : Rat) = a := by
    rw [← Rat.intCast_natCast, ← Rat.divInt_eq_div]; exact Rat.num_divInt_den a
  have h3 := Rat.div_mul_cancel (a := (a.num : Rat)) h
  rw [h2] at h3; exact h3.symm
theorem den_pos_rat (a : Rat) : (0 : Rat) < (a.den : Rat) := Rat.natCast_pos.2 a.den_pos

/-- The sign of a + b root c, c not negative. -/
def rootQ (a b c : Rat) : Int := if sgnQ a * (sgnQ b * sgnQ c) ≥ 0 then (if sgnQ a = 0 then sgnQ b * sgnQ c else sgnQ a) else sgnQ a * cmpQ (a * a) (b * b * c)
/-- The sign of a + b root c + d root e. -/
def rootsQ (a b c d e : Rat) : Int := if rootQ a b c * (sgnQ d * sgnQ e) ≥ 0 then (if rootQ a b c = 0 then sgnQ d * sgnQ e else rootQ a b c)
  else rootQ a b c * rootQ (a * a + b * b * c - d * d * e) (2 * (a * b)) c
/-- The same on integers. -/
def rootI (x y r : Int) : Int := if sgn x * (sgn y * sgn r) ≥ 0 then (if sgn x ≠ 0 then sgn x else sgn y * sgn r) else sgn x * sgn (x * x - y * y * r)
def rootsI (x y r z t : Int) : Int := if rootI x y r * (sgn z * sgn t) ≥ 0 then (if rootI x y r = 0 then sgn z * sgn t else rootI x y r)
  else rootI x y r * rootI (x * x + y * y * r - z * z * t) (2 * x * y) r
theorem rootI_scale {x y r : Int} {a b c K : Rat} (hK : 0 < K) (hx : (x : Rat) = K * a) (hy : sgn y = sgnQ b) (hr : sgn r = sgnQ c) (hyr : (y : Rat) * y * r = K * K * (b * b * c)) : rootI x y r = rootQ a b c := by
  have e1 : sgn x = sgnQ a := by rw [← sgnQ_int, hx, sgnQ_scale hK]
  have e2 : sgn (x * x - y * y * r) = cmpQ (a * a) (b * b * c) := by
    rw [cmpQ_sub, ← sgnQ_scale (K := K * K) (a := a * a - b * b * c) (Rat.mul_pos hK hK), ← sgnQ_int]
    congr 1
    rw [Rat.intCast_sub, Rat.intCast_mul, Rat.intCast_mul, Rat.intCast_mul, hyr, hx]
    grind
  unfold rootI rootQ
  rw [e1, e2, hy, hr]
  by_cases h : sgnQ a = 0
  · rw [h]; simp
  · simp [h]
/-- The five products of the program. -/
def scX (a b c d e : Rat) : Int := a.num * b.den * c.den * d.den * e.den
def scY (a b d e : Rat) : Int := b.num * a.den * d.den * e.den
def scR (c : Rat) : Int := c.num * c.den
def scZ (a b c d : Rat) : Int := d.num * a.den * b.den * c.den
theorem scR_sgn (c : Rat) : sgn (scR c) = sgnQ c := by
  unfold scR
  rw [← sgnQ_int, Rat.intCast_mul, num_mul_den, Rat.intCast_natCast, show c * (c.den : Rat) * (c.den : Rat) = ((c.den : Rat) * (c.den : Rat)) * c by grind]
  exact sgnQ_scale (Rat.mul_pos (den_pos_rat c) (den_pos_rat c))
theorem roots_same (a b c d e : Rat) : rootsI (scX a b c d e) (scY a b d e) (scR c) (scZ a b c d) (scR e) = rootsQ a b c d e ∧ rootI (scX a b c d e) (scY a b d e) (scR c) = rootQ a b c := by
  have pa := den_pos_rat a; have pb := den_pos_rat b; have pc := den_pos_rat c; have pd := den_pos_rat d; have pe := den_pos_rat e
  have X : (scX a b c d e : Rat) = (a.den : Rat) * b.den * c.den * d.den * e.den * a := by
    unfold scX; simp only [Rat.intCast_mul, Rat.intCast_natCast, num_mul_den]; grind
  have Y : (scY a b d e : Rat) = (b.den : Rat) * a.den * d.den * e.den * b := by
    unfold scY; simp only [Rat.intCast_mul, Rat.intCast_natCast, num_mul_den]; grind
  have Z : (scZ a b c d : Rat) = (d.den : Rat) * a.den * b.den * c.den * d := by
    unfold scZ; simp only [Rat.intCast_mul, Rat.intCast_natCast, num_mul_den]; grind
  have R : (scR c : Rat) = (c.den : Rat) * c.den * c := by unfold scR; simp only [Rat.intCast_mul, Rat.intCast_natCast, num_mul_den]; grind
  have T : (scR e : Rat) = (e.den : Rat) * e.den * e := by unfold scR; simp only [Rat.intCast_mul, Rat.intCast_natCast, num_mul_den]; grind
  have sy : sgn (scY a b d e) = sgnQ b := by
    rw [← sgnQ_int, Y]; exact sgnQ_scale (Rat.mul_pos (Rat.mul_pos (Rat.mul_pos pb pa) pd) pe)
  have sz : sgn (scZ a b c d) = sgnQ d := by
    rw [← sgnQ_int, Z]; exact sgnQ_scale (Rat.mul_pos (Rat.mul_pos (Rat.mul_pos pd pa) pb) pc)
  have hK : (0 : Rat) < (a.den : Rat) * b.den * c.den * d.den * e.den := Rat.mul_pos (Rat.mul_pos (Rat.mul_pos (Rat.mul_pos pa pb) pc) pd) pe
  have sr := scR_sgn c
  have st := scR_sgn e
  have h1 : rootI (scX a b c d e) (scY a b d e) (scR c) = rootQ a b c := by
    refine rootI_scale hK X sy sr ?_
    rw [Y, R]; grind
  have h2 : rootI (scX a b c d e * scX a b c d e + scY a b d e * scY a b d e * scR c - scZ a b c d * scZ a b c d * scR e) (2 * scX a b c d e * scY a b d e) (scR c) = rootQ (a * a + b * b * c - d * d * e) (2 * (a * b)) c := by
    refine rootI_scale (Rat.mul_pos hK hK) ?_ ?_ sr ?_
    · rw [Rat.intCast_sub, Rat.intCast_add]
      simp only [Rat.intCast_mul]
      rw [X, Y, Z, R, T]; grind
    · rw [← sgnQ_int]
      simp only [Rat.intCast_mul]
      rw [X, Y, show ((2 : Int) : Rat) * ((a.den : Rat) * b.den * c.den * d.den * e.den * a) * ((b.den : Rat) * a.den * d.den * e.den * b)
        = ((a.den : Rat) * b.den * c.den * d.den * e.den * ((b.den : Rat) * a.den * d.den * e.den)) * (2 * (a * b)) by
          rw [show ((2 : Int) : Rat) = 2 from rfl]; grind]
      exact sgnQ_scale (Rat.mul_pos hK (Rat.mul_pos (Rat.mul_pos (Rat.mul_pos pb pa) pd) pe))
    · simp only [Rat.intCast_mul]
      rw [X, Y, R, show ((2 : Int) : Rat) = 2 from rfl]; grind
  refine ⟨?_, h1⟩
  unfold rootsI rootsQ
  rw [h1, h2, sz, st]
end Go.Proofs.Wk
/- PLAIN LAWS: how long the results of rational arithmetic are; results at short numbers; given texts. -/
namespace Go.Proofs.Wk
open Go.RowKit Mt

/-- Its two numbers have at most so many digits. -/
def szQ (q : Rat) (k : Nat) : Prop := lng q.num ≤ k ∧ lng (q.den : Int) ≤ k
theorem szQ.mono {q : Rat} {k j : Nat} (h : szQ q k) (hj : k ≤ j) : szQ q j := ⟨Nat.le_trans h.1 hj, Nat.le_trans h.2 hj⟩
theorem okQ.sz {q : Rat} (h : okQ q) : szQ q 1024 := ⟨lng_big h.1, lng_big (by simpa using h.2)⟩
theorem szQ.ok {q : Rat} {k : Nat} (h : szQ q k) (hk : k ≤ 1024) : okQ q := ⟨lng_big_iff.1 (Nat.le_trans h.1 hk), by have := lng_big_iff.1 (Nat.le_trans h.2 hk); simpa using this⟩
theorem szQ_divInt {m n : Int} {k : Nat} (hm : lng m ≤ k) (hn : lng n ≤ k) (h : n ≠ 0) : szQ (Rat.divInt m n) k :=
  ⟨Nat.le_trans (lng_mono (low_le_num h)) hm, Nat.le_trans (lng_mono (by have := low_le_den (m := m) h; simpa using this)) hn⟩
theorem szQ_mul {p q : Rat} {j k : Nat} (hp : szQ p j) (hq : szQ q k) : szQ (p * q) (j + k) := by
  rw [← mul_divInt]
  exact szQ_divInt (lng_mul _ _ hp.1 hq.1) (lng_mul _ _ hp.2 hq.2) (Int.mul_ne_zero (den_ne p) (den_ne q))
theorem szQ_add {p q : Rat} {j k : Nat} (hp : szQ p j) (hq : szQ q k) : szQ (p + q) (j + k + 1) := by
  rw [← add_divInt]
  refine szQ_divInt (lng_add _ _ (lng_mul _ _ hp.1 hq.2) (by have := lng_mul _ _ hq.1 hp.2; omega)) (by have := lng_mul _ _ hp.2 hq.2; omega) (Int.mul_ne_zero (den_ne p) (den_ne q))
theorem szQ_neg {p : Rat} {k : Nat} (h : szQ p k) : szQ (-p) k := ⟨by rw [Rat.neg_num, lng_neg]; exact h.1, by rw [Rat.neg_den]; exact h.2⟩
theorem szQ_sub {p q : Rat} {j k : Nat} (hp : szQ p j) (hq : szQ q k) : szQ (p - q) (j + k + 1) := by
  rw [Rat.sub_eq_add_neg]; exact szQ_add hp (szQ_neg hq)
theorem szQ_div {p q : Rat} {j k : Nat} (hp : szQ p j) (hq : szQ q k) (h : q ≠ 0) : szQ (p / q) (j + k) := by
  rw [← div_divInt]
  exact szQ_divInt (lng_mul _ _ hp.1 hq.2) (lng_mul _ _ hp.2 hq.1) (Int.mul_ne_zero (den_ne p) (fun e => h (Rat.num_eq_zero.1 e)))
theorem szQ_zero : szQ 0 1 := ⟨(lng_le 0 (k := 1) (by omega)).2 (by decide), (lng_le 1 (k := 1) (by omega)).2 (by decide)⟩
theorem allB_lng {l : List Int} (h : ∀ n ∈ l, lng n ≤ 1024) : allB l = true := by
  unfold allB
  rw [List.all_eq_true]
  intro n hn
  exact decide_eq_true (lng_big_iff.1 (h n hn))
theorem addQ_sz {p q : Rat} {j k : Nat} (hp : szQ p j) (hq : szQ q k) (hk : j + k < 1024) : addQ p q = (rtoa (p + q), 0) := by
  unfold addQ
  have h1 := lng_mul _ _ hp.1 hq.2; have h2 := lng_mul _ _ hq.1 hp.2; have h3 := lng_mul _ _ hp.2 hq.2
  have h4 := lng_add (p.num * q.den) (q.num * p.den) (k := j + k) h1 (by omega)
  rw [if_pos (allB_lng fun n hn => by simp at hn; rcases hn with rfl | rfl | rfl | rfl <;> omega)]
theorem subQ_sz {p q : Rat} {j k : Nat} (hp : szQ p j) (hq : szQ q k) (hk : j + k < 1024) : subQ p q = (rtoa (p - q), 0) := by
  unfold subQ
  have h1 := lng_mul _ _ hp.1 hq.2; have h2 := lng_mul _ _ hq.1 hp.2; have h3 := lng_mul _ _ hp.2 hq.2
  have h4 : lng (p.num * q.den - q.num * p.den) ≤ j + k + 1 := by
    rw [Int.sub_eq_add_neg]; exact lng_add _ _ h1 (by rw [lng_neg]; omega)
  rw [if_pos (allB_lng fun n hn => by simp at hn; rcases hn with rfl | rfl | rfl | rfl <;> omega)]
theorem mulQ_sz {p q : Rat} {j k : Nat} (hp : szQ p j) (hq : szQ q k) (hk : j + k ≤ 1024) : mulQ p q = (rtoa (p * q), 0) := by
  unfold mulQ
  have h1 := lng_mul _ _ hp.1 hq.1; have h3 := lng_mul _ _ hp.2 hq.2
  rw [if_pos (allB_lng fun n hn => by simp at hn; rcases hn with rfl | rfl <;> omega)]
theorem divQ_sz {p q : Rat} {j k : Nat} (hp : szQ p j) (hq : szQ q k) (hk : j + k ≤ 1024) (h : q ≠ 0) : divQ p q = (rtoa (p / q), 0) := by
  unfold divQ
  have h1 := lng_mul _ _ hp.1 hq.2; have h3 := lng_mul _ _ hp.2 hq.1
  rw [if_neg h, if_pos (allB_lng fun n hn => by simp at hn; rcases hn with rfl | rfl <;> omega)]
theorem cmpE_sz {p q : Rat} {j k : Nat} (hp : szQ p j) (hq : szQ q k) (hk : j + k ≤ 1024) : cmpE p q = (cmpQ p q, 0) := by
  unfold cmpE
  have h1 := lng_mul _ _ hp.1 hq.2; have h3 := lng_mul _ _ hq.1 hp.2
  rw [if_pos (allB_lng fun n hn => by simp at hn; rcases hn with rfl | rfl <;> omega)]

/-- A text of a number, known by its check. -/
theorem rtoa_rv {l : Txt} (h : rchk l = 0) : rtoa (rv l) = l := by
  obtain ⟨q, rfl, -⟩ := rchk_zero h
  rw [rv_rtoa]
theorem rpart_len (l : Txt) (h : rchk l = 0) : szQ (rv l) (l.length + 1) := by
  obtain ⟨q, rfl, -⟩ := rchk_zero h
  rw [rv_rtoa]
  have h1 := lng_itoa_lo q.num; have h2 := lng_itoa_lo (q.den : Int)
  constructor
  · refine Nat.le_trans h1 ?_
    unfold rtoa; split
    · omega
    · rw [List.length_append]; omega
  · by_cases hd : q.den = 1
    · rw [hd]; have := (lng_le 1 (k := 1) (by omega)).2 (by decide); exact Nat.le_trans this (by omega)
    · refine Nat.le_trans h2 ?_
      unfold rtoa; rw [if_neg hd, List.length_append, List.length_cons]; omega
theorem lit2 {α : Type} (z : α) (f : Rat → Rat → α × Int) {a b : Txt} (ha : rchk a = 0) (hb : rchk b = 0) : rbin z f a b = f (rv a) (rv b) := by
  unfold rbin
  rw [if_pos (by unfold firstR; rw [if_pos ha]; unfold firstR; rw [if_pos hb]; rfl)]
theorem lit1 {α : Type} (z : α) (f : Rat → α × Int) {a : Txt} (ha : rchk a = 0) : run1 z f a = f (rv a) := by
  unfold run1; rw [if_pos ha]
end Go.Proofs.Wk
