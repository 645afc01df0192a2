/- PLAIN LAWS: how long the results of rational arithmetic are; results at short numbers; given texts. -/
import Derived.Test.YtachiilmgnognaaGreatDoorRatC
import Derived.Test.YtachiilmgnognaaGreatDoorRatD
namespace Go.Proofs.Wk
open Go.RowKit Mt

/-- Its two numbers have at most so many digits. -/
def szQ (q : Rat) (k : Nat) : Prop := lng q.num ≤ k ∧ lng (q.den : Int) ≤ k
theorem szQ.mono {q : Rat} {k j : Nat} (h : szQ q k) (hj : k ≤ j) : szQ q j := ⟨Nat.le_trans h.1 hj, Nat.le_trans h.2 hj⟩
theorem okQ.sz {q : Rat} (h : okQ q) : szQ q 1024 := ⟨lng_big h.1, lng_big (by simpa using h.2)⟩
theorem szQ.ok {q : Rat} {k : Nat} (h : szQ q k) (hk : k ≤ 1024) : okQ q := ⟨lng_big_iff.1 (Nat.le_trans h.1 hk), by have := lng_big_iff.1 (Nat.le_trans h.2 hk); simpa using this⟩
theorem szQ_divInt {m n : Int} {k : Nat} (hm : lng m ≤ k) (hn : lng n ≤ k) (h : n ≠ 0) : szQ (Rat.divInt m n) k :=
  ⟨Nat.le_trans (lng_mono (low_le_num h)) hm, Nat.le_trans (lng_mono (by have := low_le_den (m := m) h; simpa using this)) hn⟩
theorem szQ_mul {p q : Rat} {j k : Nat} (hp : szQ p j) (hq : szQ q k) : szQ (p * q) (j + k) := by
  rw [← mul_divInt]
  exact szQ_divInt (lng_mul _ _ hp.1 hq.1) (lng_mul _ _ hp.2 hq.2) (Int.mul_ne_zero (den_ne p) (den_ne q))
theorem szQ_add {p q : Rat} {j k : Nat} (hp : szQ p j) (hq : szQ q k) : szQ (p + q) (j + k + 1) := by
  rw [← add_divInt]
  refine szQ_divInt (lng_add _ _ (lng_mul _ _ hp.1 hq.2) (by have := lng_mul _ _ hq.1 hp.2; omega)) (by have := lng_mul _ _ hp.2 hq.2; omega) (Int.mul_ne_zero (den_ne p) (den_ne q))
theorem szQ_neg {p : Rat} {k : Nat} (h : szQ p k) : szQ (-p) k := ⟨by rw [Rat.neg_num, lng_neg]; exact h.1, by rw [Rat.neg_den]; exact h.2⟩
theorem szQ_sub {p q : Rat} {j k : Nat} (hp : szQ p j) (hq : szQ q k) : szQ (p - q) (j + k + 1) := by
  rw [Rat.sub_eq_add_neg]; exact szQ_add hp (szQ_neg hq)
theorem szQ_div {p q : Rat} {j k : Nat} (hp : szQ p j) (hq : szQ q k) (h : q ≠ 0) : szQ (p / q) (j + k) := by
  rw [← div_divInt]
  exact szQ_divInt (lng_mul _ _ hp.1 hq.2) (lng_mul _ _ hp.2 hq.1) (Int.mul_ne_zero (den_ne p) (fun e => h (Rat.num_eq_zero.1 e)))
theorem szQ_zero : szQ 0 1 := ⟨(lng_le 0 (k := 1) (by omega)).2 (by decide), (lng_le 1 (k := 1) (by omega)).2 (by decide)⟩
theorem allB_lng {l : List Int} (h : ∀ n ∈ l, lng n ≤ 1024) : allB l = true := by
  unfold allB
  rw [List.all_eq_true]
  intro n hn
  exact decide_eq_true (lng_big_iff.1 (h n hn))
theorem addQ_sz {p q : Rat} {j k : Nat} (hp : szQ p j) (hq : szQ q k) (hk : j + k < 1024) : addQ p q = (rtoa (p + q), 0) := by
  unfold addQ
  have h1 := lng_mul _ _ hp.1 hq.2; have h2 := lng_mul _ _ hq.1 hp.2; have h3 := lng_mul _ _ hp.2 hq.2
  have h4 := lng_add (p.num * q.den) (q.num * p.den) (k := j + k) h1 (by omega)
  rw [if_pos (allB_lng fun n hn => by simp at hn; rcases hn with rfl | rfl | rfl | rfl <;> omega)]
theorem subQ_sz {p q : Rat} {j k : Nat} (hp : szQ p j) (hq : szQ q k) (hk : j + k < 1024) : subQ p q = (rtoa (p - q), 0) := by
  unfold subQ
  have h1 := lng_mul _ _ hp.1 hq.2; have h2 := lng_mul _ _ hq.1 hp.2; have h3 := lng_mul _ _ hp.2 hq.2
  have h4 : lng (p.num * q.den - q.num * p.den) ≤ j + k + 1 := by
    rw [Int.sub_eq_add_neg]; exact lng_add _ _ h1 (by rw [lng_neg]; omega)
  rw [if_pos (allB_lng fun n hn => by simp at hn; rcases hn with rfl | rfl | rfl | rfl <;> omega)]
theorem mulQ_sz {p q : Rat} {j k : Nat} (hp : szQ p j) (hq : szQ q k) (hk : j + k ≤ 1024) : mulQ p q = (rtoa (p * q), 0) := by
  unfold mulQ
  have h1 := lng_mul _ _ hp.1 hq.1; have h3 := lng_mul _ _ hp.2 hq.2
  rw [if_pos (allB_lng fun n hn => by simp at hn; rcases hn with rfl | rfl <;> omega)]
theorem divQ_sz {p q : Rat} {j k : Nat} (hp : szQ p j) (hq : szQ q k) (hk : j + k ≤ 1024) (h : q ≠ 0) : divQ p q = (rtoa (p / q), 0) := by
  unfold divQ
  have h1 := lng_mul _ _ hp.1 hq.2; have h3 := lng_mul _ _ hp.2 hq.1
  rw [if_neg h, if_pos (allB_lng fun n hn => by simp at hn; rcases hn with rfl | rfl <;> omega)]
theorem cmpE_sz {p q : Rat} {j k : Nat} (hp : szQ p j) (hq : szQ q k) (hk : j + k ≤ 1024) : cmpE p q = (cmpQ p q, 0) := by
  unfold cmpE
  have h1 := lng_mul _ _ hp.1 hq.2; have h3 := lng_mul _ _ hq.1 hp.2
  rw [if_pos (allB_lng fun n hn => by simp at hn; rcases hn with rfl | rfl <;> omega)]

/-- A text of a number, known by its check. -/
theorem rtoa_rv {l : Txt} (h : rchk l = 0) : rtoa (rv l) = l := by
  obtain ⟨q, rfl, -⟩ := rchk_zero h
  rw [rv_rtoa]
theorem rpart_len (l : Txt) (h : rchk l = 0) : szQ (rv l) (l.length + 1) := by
  obtain ⟨q, rfl, -⟩ := rchk_zero h
  rw [rv_rtoa]
  have h1 := lng_itoa_lo q.num; have h2 := lng_itoa_lo (q.den : Int)
  constructor
  · refine Nat.le_trans h1 ?_
    unfold rtoa; split
    · omega
    · rw [List.length_append]; omega
  · by_cases hd : q.den = 1
    · rw [hd]; have := (lng_le 1 (k := 1) (by omega)).2 (by decide); exact Nat.le_trans this (by omega)
    · refine Nat.le_trans h2 ?_
      unfold rtoa; rw [if_neg hd, List.length_append, List.length_cons]; omega
theorem lit2 {α : Type} (z : α) (f : Rat → Rat → α × Int) {a b : Txt} (ha : rchk a = 0) (hb : rchk b = 0) : rbin z f a b = f (rv a) (rv b) := by
  unfold rbin
  rw [if_pos (by unfold firstR; rw [if_pos ha]; unfold firstR; rw [if_pos hb]; rfl)]
theorem lit1 {α : Type} (z : α) (f : Rat → α × Int) {a : Txt} (ha : rchk a = 0) : run1 z f a = f (rv a) := by
  unfold run1; rw [if_pos ha]
end Go.Proofs.Wk
