/- PLAIN LAWS: texts of rational numbers. -/
import Derived.Test.YtcdjhgkeehhaaaaGreatDoorGI
namespace Go.Proofs.Wk
open Go.RowKit Mt

/-- What stands before the first '/', whether there is one, and what stands behind it ("1" if there is none). -/
def rnum (l : Txt) : Txt := l.takeWhile (· != 47)
def rhas (l : Txt) : Bool := l.contains 47
def rden (l : Txt) : Txt := if rhas l then (l.dropWhile (· != 47)).tail else [49]
/-- The text of a rational number. -/
def rtoa (q : Rat) : Txt := if q.den = 1 then Lib.itoa q.num else Lib.itoa q.num ++ 47 :: Lib.itoa (q.den : Int)
theorem itoa_no (n : Int) : ∀ c ∈ Lib.itoa n, c ≠ 47 := by
  intro c hc e
  subst e
  have hd : ∀ m : Nat, (47 : UInt8) ∈ Lib.decDigits m → False := fun m h => by
    have := List.all_eq_true.1 (allD_dec m) _ h
    exact absurd this (by decide)
  by_cases h : n < 0
  · rw [itoa_neg' h] at hc
    rcases List.mem_cons.1 hc with h1 | h1
    · exact absurd h1 (by decide)
    · exact hd _ h1
  · rw [itoa_pos' (by omega)] at hc
    exact hd _ hc
theorem takeWhile_no {l : Txt} (h : ∀ c ∈ l, c ≠ 47) (r : Txt) : (l ++ 47 :: r).takeWhile (· != 47) = l := by
  induction l with
  | nil => rfl
  | cons c t ih =>
    have hc : (c != 47) = true := by rw [bne_iff_ne]; exact h c (by simp)
    rw [List.cons_append, List.takeWhile_cons, hc, if_pos rfl, ih fun x hx => h x (by simp [hx])]
theorem dropWhile_no {l : Txt} (h : ∀ c ∈ l, c ≠ 47) (r : Txt) : (l ++ 47 :: r).dropWhile (· != 47) = 47 :: r := by
  induction l with
  | nil => rfl
  | cons c t ih =>
    have hc : (c != 47) = true := by rw [bne_iff_ne]; exact h c (by simp)
    rw [List.cons_append, List.dropWhile_cons, hc, if_pos rfl, ih fun x hx => h x (by simp [hx])]
theorem takeWhile_all {l : Txt} (h : ∀ c ∈ l, c ≠ 47) : l.takeWhile (· != 47) = l := by
  induction l with
  | nil => rfl
  | cons c t ih =>
    have hc : (c != 47) = true := by rw [bne_iff_ne]; exact h c (by simp)
    rw [List.takeWhile_cons, hc, if_pos rfl, ih fun x hx => h x (by simp [hx])]
theorem rhas_no {l : Txt} (h : ∀ c ∈ l, c ≠ 47) : rhas l = false := by
  unfold rhas
  rw [List.contains_eq_any_beq, List.any_eq_false]
  intro x hx
  simp only [beq_iff_eq]
  exact fun e => h x hx e.symm
theorem rhas_yes (l r : Txt) : rhas (l ++ 47 :: r) = true := by unfold rhas; simp
theorem rnum_rtoa (q : Rat) : rnum (rtoa q) = Lib.itoa q.num := by
  unfold rnum rtoa
  split
  · exact takeWhile_all (itoa_no _)
  · exact takeWhile_no (itoa_no _) _
theorem rhas_rtoa (q : Rat) : rhas (rtoa q) = !decide (q.den = 1) := by
  unfold rtoa
  split
  · rename_i h; rw [rhas_no (itoa_no _), decide_eq_true h]; rfl
  · rename_i h; rw [rhas_yes, decide_eq_false h]; rfl
theorem rden_rtoa (q : Rat) : rden (rtoa q) = Lib.itoa (q.den : Int) := by
  unfold rden
  rw [rhas_rtoa]
  by_cases h : q.den = 1
  · rw [decide_eq_true h, h]; exact itoa_one.symm
  · rw [decide_eq_false h]
    unfold rtoa
    rw [if_neg h]
    show ((Lib.itoa q.num ++ 47 :: Lib.itoa (q.den : Int)).dropWhile (· != 47)).tail = _
    rw [dropWhile_no (itoa_no _)]; rfl
/-- A text is made of its parts. -/
theorem split_eq (l : Txt) : (rhas l = false ∧ l = rnum l) ∨ (rhas l = true ∧ l = rnum l ++ 47 :: rden l) := by
  cases h : rhas l with
  | false =>
    refine .inl ⟨rfl, ?_⟩
    unfold rnum
    refine (takeWhile_all fun c hc e => ?_).symm
    subst e
    unfold rhas at h
    rw [List.contains_iff_mem.2 hc] at h; cases h
  | true =>
    refine .inr ⟨rfl, ?_⟩
    have e := List.takeWhile_append_dropWhile (p := fun c : UInt8 => c != 47) (l := l)
    unfold rden
    rw [if_pos h]
    have hm : (47 : UInt8) ∈ l := List.contains_iff_mem.1 h
    have hne : l.dropWhile (· != 47) ≠ [] := fun e0 => by
      have := mem_dropWhile (p := fun c : UInt8 => c != 47) hm (by decide)
      rw [e0] at this; cases this
    obtain ⟨c, t, hct⟩ : ∃ c t, l.dropWhile (· != 47) = c :: t := List.exists_cons_of_ne_nil hne
    have hc : c = 47 := by
      have := List.head?_dropWhile_not (p := fun c : UInt8 => c != 47) l
      rw [hct] at this
      simpa using this
    rw [hct]
    conv => lhs; rw [← e, hct, hc]
    rfl
theorem rtoa_inj {p q : Rat} (h : rtoa p = rtoa q) : p = q := by
  have h1 : Lib.itoa p.num = Lib.itoa q.num := by rw [← rnum_rtoa, ← rnum_rtoa, h]
  have h2 : Lib.itoa (p.den : Int) = Lib.itoa (q.den : Int) := by rw [← rden_rtoa, ← rden_rtoa, h]
  exact Rat.ext (itoa_inj h1) (by have := itoa_inj h2; omega)

/-- The number of the error of a text. -/
def rchk (l : Txt) : Int :=
  if chk (rnum l) = 3 ∨ chk (rden l) = 3 then 3 else if chk (rnum l) ≠ 0 ∨ chk (rden l) ≠ 0 then 11 else
  if rhas l = true ∧ (val (rden l) ≤ 1 ∨ Int.gcd (val (rnum l)) (val (rden l)) ≠ 1) then 3 else 0
/-- Its two numbers have at most 1024 digits. -/
def okQ (q : Rat) : Prop := q.num.natAbs < big ∧ q.den < big
theorem one_lt_big' : 1 < big := lng_big_iff.1 (Nat.le_trans ((lng_le 1 (k := 1) (by omega)).2 (by decide)) (by omega) : lng (1 : Int) ≤ 1024)
theorem chk_den {q : Rat} (h : okQ q) : chk (Lib.itoa (q.den : Int)) = 0 := by rw [chk_itoa, if_pos (by have := h.2; simpa using this)]
theorem chk_num {q : Rat} (h : okQ q) : chk (Lib.itoa q.num) = 0 := by rw [chk_itoa, if_pos h.1]
theorem gcd_red (q : Rat) : Int.gcd q.num (q.den : Int) = 1 := by
  have := q.reduced
  unfold Nat.Coprime at this
  rw [Int.gcd]; simpa using this
theorem rchk_rtoa {q : Rat} (h : okQ q) : rchk (rtoa q) = 0 := by
  unfold rchk
  rw [rnum_rtoa, rden_rtoa, rhas_rtoa, chk_num h, chk_den h, if_neg (by omega), if_neg (by omega), val_itoa, val_itoa, if_neg]
  rintro ⟨h1, h2⟩
  have h3 : q.den ≠ 1 := by simpa using h1
  have h4 := q.den_pos
  have h5 := gcd_red q
  omega
theorem rchk_zero {l : Txt} (h : rchk l = 0) : ∃ q : Rat, l = rtoa q ∧ okQ q := by
  unfold rchk at h
  by_cases h1 : chk (rnum l) = 3 ∨ chk (rden l) = 3
  · rw [if_pos h1] at h; omega
  rw [if_neg h1] at h
  by_cases h2 : chk (rnum l) ≠ 0 ∨ chk (rden l) ≠ 0
  · rw [if_pos h2] at h; omega
  rw [if_neg h2] at h
  have hn : chk (rnum l) = 0 := by omega
  have hd : chk (rden l) = 0 := by omega
  obtain ⟨en, bn⟩ := ok_text hn
  obtain ⟨ed, bd⟩ := ok_text hd
  rcases split_eq l with ⟨hs, e⟩ | ⟨hs, e⟩
  · refine ⟨(val (rnum l) : Rat), ?_, ?_, ?_⟩
    · unfold rtoa
      rw [if_pos (by simp)]
      rw [Rat.num_intCast, en]; exact e
    · simpa using bn
    · have := one_lt_big'; simpa using this
  · by_cases h3 : rhas l = true ∧ (val (rden l) ≤ 1 ∨ Int.gcd (val (rnum l)) (val (rden l)) ≠ 1)
    · rw [if_pos h3] at h; omega
    have h4 : 1 < val (rden l) ∧ Int.gcd (val (rnum l)) (val (rden l)) = 1 := by
      constructor
      · have : ¬ val (rden l) ≤ 1 := fun e => h3 ⟨hs, .inl e⟩
        omega
      · by_cases h5 : Int.gcd (val (rnum l)) (val (rden l)) = 1
        · exact h5
        · exact absurd ⟨hs, .inr h5⟩ h3
    obtain ⟨d, hde⟩ : ∃ d : Nat, val (rden l) = d := ⟨(val (rden l)).toNat, by omega⟩
    rw [hde] at h4 bd ed
    refine ⟨⟨val (rnum l), d, by omega, by have := h4.2; unfold Nat.Coprime; rw [Int.gcd] at this; simpa using this⟩, ?_, bn, by simpa using bd⟩
    unfold rtoa
    rw [if_neg (by show d ≠ 1; omega)]
    show l = Lib.itoa (val (rnum l)) ++ 47 :: Lib.itoa (d : Int)
    rw [en, ed]; exact e
theorem rchk_cases (l : Txt) : rchk l = 3 ∨ rchk l = 11 ∨ rchk l = 0 := by
  unfold rchk; split
  · exact .inl rfl
  · split
    · exact .inr (.inl rfl)
    · split
      · exact .inl rfl
      · exact .inr (.inr rfl)

/-! ### in lowest terms -/
def lowG (m n : Int) : Int := if n < 0 then -(Int.gcd m n : Int) else Int.gcd m n
theorem exact_fdiv {x y : Int} (h : y ≠ 0) : (x * y).fdiv y = x := (fl_unique (m := x * y) (n := y) (q := x) (r := 0) (by omega) (fun _ => by omega) (fun _ => by omega) h).1
theorem low_spec {m n : Int} (h : n ≠ 0) : lowG m n ≠ 0 ∧ m.fdiv (lowG m n) = (Rat.divInt m n).num ∧ n.fdiv (lowG m n) = ((Rat.divInt m n).den : Int) := by
  have hg0 : (Int.gcd m n : Int) ≠ 0 := fun e => h ((Int.gcd_eq_zero_iff (a := m) (b := n)).1 (by omega)).2
  obtain ⟨x, hx⟩ := Int.gcd_dvd_left (a := m) (b := n)
  obtain ⟨y, hy⟩ := Int.gcd_dvd_right (a := m) (b := n)
  have hcomm : (n.gcd m : Int) = Int.gcd m n := by rw [Int.gcd_comm]
  generalize hg : (Int.gcd m n : Int) = g at *
  have hgp : 0 < g := by omega
  refine ⟨by unfold lowG; rw [hg]; split <;> omega, ?_, ?_⟩
  · rw [Rat.num_divInt, hcomm]
    unfold lowG
    rw [hg]
    by_cases hn : n < 0
    · rw [if_pos hn, Int.sign_eq_neg_one_of_neg hn, hx, show g * x = -x * -g by rw [Int.neg_mul_neg, Int.mul_comm], exact_fdiv (by omega)]
      rw [Int.neg_mul_neg, show -1 * (x * g) = g * -x by rw [Int.mul_neg, Int.mul_comm g x]; omega, Int.mul_ediv_cancel_left _ hg0]
    · rw [if_neg hn, Int.sign_eq_one_of_pos (by omega), hx, show g * x = x * g from Int.mul_comm _ _, exact_fdiv hg0]
      rw [Int.one_mul, Int.mul_ediv_cancel _ hg0]
  · rw [Rat.den_divInt, if_neg h]
    have hcomm2 : n.gcd m = g.toNat := by omega
    rw [hcomm2]
    unfold lowG
    rw [hg]
    by_cases hn : n < 0
    · have hy0 : y < 0 := by
        rcases Int.lt_trichotomy y 0 with h1 | h1 | h1
        · exact h1
        · rw [h1] at hy; omega
        · have := Int.mul_pos hgp h1; omega
      rw [if_pos hn]
      have e1 : n.fdiv (-g) = -y := by
        rw [hy, show g * y = -y * -g by rw [Int.neg_mul_neg, Int.mul_comm], exact_fdiv (by omega)]
      rw [e1]
      have e2 : n.natAbs = g.toNat * y.natAbs := by
        rw [hy, Int.natAbs_mul]; congr 1; omega
      rw [e2, Nat.mul_div_cancel_left _ (by omega)]; omega
    · have hy0 : 0 < y := by
        rcases Int.lt_trichotomy y 0 with h1 | h1 | h1
        · have := Int.mul_neg_of_pos_of_neg hgp h1; omega
        · rw [h1] at hy; omega
        · exact h1
      rw [if_neg hn]
      have e1 : n.fdiv g = y := by
        rw [hy, show g * y = y * g from Int.mul_comm _ _, exact_fdiv hg0]
      rw [e1]
      have e2 : n.natAbs = g.toNat * y.natAbs := by
        rw [hy, Int.natAbs_mul]; congr 1; omega
      rw [e2, Nat.mul_div_cancel_left _ (by omega)]; omega
theorem itoa_is_one {n : Int} : (Lib.itoa n == [49]) = decide (n = 1) := by
  by_cases h : n = 1
  · subst h; rw [itoa_one]; rfl
  · rw [decide_eq_false h, beq_eq_false_iff_ne, ← itoa_one]
    exact fun e => h (itoa_inj e)
/-- The text of a fraction's parts, joined. -/
def joinT (n d : Int) : Txt := if d = 1 then Lib.itoa n else Lib.itoa n ++ 47 :: Lib.itoa d
theorem join_rtoa (q : Rat) : joinT q.num (q.den : Int) = rtoa q := by
  unfold joinT rtoa
  by_cases h : q.den = 1
  · rw [if_pos h, if_pos (by omega)]
  · rw [if_neg h, if_neg (by omega)]
theorem low_le_num {m n : Int} (h : n ≠ 0) : (Rat.divInt m n).num.natAbs ≤ m.natAbs := by
  rw [← (low_spec h).2.1]; exact fdiv_le (low_spec h).1
theorem low_le_den {m n : Int} (h : n ≠ 0) : (Rat.divInt m n).den ≤ n.natAbs := by
  have e := (low_spec (m := m) h).2.2
  have := fdiv_le (m := n) (low_spec (m := m) h).1
  rw [e] at this
  simpa using this
end Go.Proofs.Wk
/- PLAIN LAWS: arithmetic of rational numbers, with an error where a number is too large. -/
namespace Go.Proofs.Wk
open Go.RowKit Mt

theorem den_ne (q : Rat) : (q.den : Int) ≠ 0 := by have := q.den_pos; omega
theorem den_pos' (q : Rat) : 0 < (q.den : Int) := by have := q.den_pos; omega
theorem add_divInt (p q : Rat) : Rat.divInt (p.num * q.den + q.num * p.den) (p.den * q.den) = p + q := by
  conv => rhs; rw [← Rat.num_divInt_den p, ← Rat.num_divInt_den q, Rat.divInt_add_divInt _ _ (den_ne p) (den_ne q)]
theorem sub_divInt (p q : Rat) : Rat.divInt (p.num * q.den - q.num * p.den) (p.den * q.den) = p - q := by
  conv => rhs; rw [← Rat.num_divInt_den p, ← Rat.num_divInt_den q, Rat.divInt_sub_divInt _ _ (den_ne p) (den_ne q)]
theorem mul_divInt (p q : Rat) : Rat.divInt (p.num * q.num) (p.den * q.den) = p * q := by
  conv => rhs; rw [← Rat.num_divInt_den p, ← Rat.num_divInt_den q, Rat.divInt_mul_divInt]
theorem div_divInt (p q : Rat) : Rat.divInt (p.num * q.den) (p.den * q.num) = p / q := by
  conv => rhs; rw [Rat.div_def, ← Rat.num_divInt_den p, ← Rat.num_divInt_den q, Rat.inv_divInt, Rat.divInt_mul_divInt]

/-- The value of a text. -/
def rv (l : Txt) : Rat := Rat.divInt (val (rnum l)) (val (rden l))
theorem rv_rtoa (q : Rat) : rv (rtoa q) = q := by unfold rv; rw [rnum_rtoa, rden_rtoa, val_itoa, val_itoa, Rat.num_divInt_den]
/-- The first error of texts. -/
def firstR : List Txt → Int
  | [] => 0
  | a :: t => if rchk a = 0 then firstR t else rchk a
theorem rchk_range (a : Txt) : 0 ≤ rchk a ∧ rchk a ≤ 11 := by rcases rchk_cases a with h | h | h <;> rw [h] <;> omega
theorem firstR_range : ∀ l, 0 ≤ firstR l ∧ firstR l ≤ 11
  | [] => by decide
  | a :: t => by
    unfold firstR; split
    · exact firstR_range t
    · exact rchk_range a
theorem firstR_zero {l : List Txt} (h : firstR l = 0) : ∃ qs : List Rat, l = qs.map rtoa ∧ ∀ q ∈ qs, okQ q := by
  induction l with
  | nil => exact ⟨[], rfl, by simp⟩
  | cons a t ih =>
    unfold firstR at h
    by_cases h1 : rchk a = 0
    · rw [if_pos h1] at h
      obtain ⟨qs, e, hq⟩ := ih h
      obtain ⟨q, e1, hq1⟩ := rchk_zero h1
      refine ⟨q :: qs, by rw [List.map_cons, ← e, ← e1], fun x hx => ?_⟩
      rcases List.mem_cons.1 hx with rfl | hx
      · exact hq1
      · exact hq x hx
    · rw [if_neg h1] at h; exact absurd h h1
theorem firstR_ok {qs : List Rat} (h : ∀ q ∈ qs, okQ q) : firstR (qs.map rtoa) = 0 := by
  induction qs with
  | nil => rfl
  | cons q t ih =>
    rw [List.map_cons]; unfold firstR
    rw [if_pos (rchk_rtoa (h q (by simp)))]
    exact ih fun x hx => h x (by simp [hx])

/-- An operation on two texts: the first error, or what the numbers give. -/
def rbin {α : Type} (z : α) (f : Rat → Rat → α × Int) (a b : Txt) : α × Int := if firstR [a, b] = 0 then f (rv a) (rv b) else (z, firstR [a, b])
def run1 {α : Type} (z : α) (f : Rat → α × Int) (a : Txt) : α × Int := if rchk a = 0 then f (rv a) else (z, rchk a)
theorem rbin_cases (a b : Txt) : (firstR [a, b] ≠ 0 ∧ ∀ {α : Type} (z : α) f, rbin z f a b = (z, firstR [a, b])) ∨
    ∃ p q : Rat, a = rtoa p ∧ b = rtoa q ∧ okQ p ∧ okQ q ∧ firstR [rtoa p, rtoa q] = 0 ∧ ∀ {α : Type} (z : α) f, rbin z f (rtoa p) (rtoa q) = f p q := by
  by_cases h : firstR [a, b] = 0
  · refine .inr ?_
    obtain ⟨qs, e, hq⟩ := firstR_zero h
    match qs, e with
    | [p, q], e =>
      simp only [List.map_cons, List.map_nil, List.cons.injEq, and_true] at e
      obtain ⟨rfl, rfl⟩ := e
      refine ⟨p, q, rfl, rfl, hq p (by simp), hq q (by simp), h, fun z f => ?_⟩
      unfold rbin
      rw [if_pos h, rv_rtoa, rv_rtoa]
  · refine .inl ⟨h, fun z f => ?_⟩
    unfold rbin; rw [if_neg h]
theorem run1_cases (a : Txt) : (rchk a ≠ 0 ∧ ∀ {α : Type} (z : α) f, run1 z f a = (z, rchk a)) ∨
    ∃ p : Rat, a = rtoa p ∧ okQ p ∧ rchk (rtoa p) = 0 ∧ ∀ {α : Type} (z : α) f, run1 z f (rtoa p) = f p := by
  by_cases h : rchk a = 0
  · obtain ⟨p, rfl, hp⟩ := rchk_zero h
    refine .inr ⟨p, rfl, hp, h, fun z f => ?_⟩
    unfold run1; rw [if_pos h, rv_rtoa]
  · refine .inl ⟨h, fun z f => ?_⟩
    unfold run1; rw [if_neg h]

/-- Integers that are all short enough. -/
def allB (l : List Int) : Bool := l.all fun n => decide (n.natAbs < big)
theorem allB_cons (n : Int) (l : List Int) : allB (n :: l) = (decide (n.natAbs < big) && allB l) := rfl
def addQ (p q : Rat) : Txt × Int := if allB [p.num * q.den, q.num * p.den, p.den * q.den, p.num * q.den + q.num * p.den] = true then (rtoa (p + q), 0) else ([], 11)
def subQ (p q : Rat) : Txt × Int := if allB [p.num * q.den, q.num * p.den, p.den * q.den, p.num * q.den - q.num * p.den] = true then (rtoa (p - q), 0) else ([], 11)
def mulQ (p q : Rat) : Txt × Int := if allB [p.den * q.den, p.num * q.num] = true then (rtoa (p * q), 0) else ([], 11)
def divQ (p q : Rat) : Txt × Int := if q = 0 then ([], 10) else if allB [p.num * q.den, p.den * q.num] = true then (rtoa (p / q), 0) else ([], 11)
def cmpQ (p q : Rat) : Int := cmp (p.num * q.den) (q.num * p.den)
def cmpE (p q : Rat) : Int × Int := if allB [p.num * q.den, q.num * p.den] = true then (cmpQ p q, 0) else (0, 11)
def sgnQ (p : Rat) : Int := sgn p.num
/-- The quotient of two texts of integers. -/
def makQ (m n : Int) : Txt × Int := if n = 0 then ([], 10) else (rtoa (Rat.divInt m n), 0)
theorem rtoa_zero : rtoa 0 = [48] := by unfold rtoa; rw [if_pos (show (0 : Rat).den = 1 from rfl)]; exact itoa_zero
theorem rtoa_is_zero {q : Rat} : (rtoa q == [48]) = decide (q = 0) := by
  by_cases h : q = 0
  · subst h; rw [rtoa_zero]; rfl
  · rw [decide_eq_false h, beq_eq_false_iff_ne, ← rtoa_zero]
    exact fun e => h (rtoa_inj e)
end Go.Proofs.Wk
/- PLAIN LAWS: sums of lists of rational numbers, with an error where a number is too large. -/
namespace Go.Proofs.Wk
open Go.RowKit Mt

/-- A sum, step by step, from a number on. -/
def sumF : List Rat → Rat → Txt × Int
  | [], x => (rtoa x, 0)
  | q :: t, x => if (addQ x q).2 = 0 then sumF t (x + q) else ([], (addQ x q).2)
def sum2 (ls : List Txt) : Txt × Int := if 4096 < ls.length then ([], 5) else if firstR ls = 0 then sumF (ls.map rv) 0 else ([], firstR ls)
theorem okQ_divInt {m n : Int} (hm : m.natAbs < big) (hn : n.natAbs < big) (h : n ≠ 0) : okQ (Rat.divInt m n) :=
  ⟨Nat.lt_of_le_of_lt (low_le_num h) hm, Nat.lt_of_le_of_lt (low_le_den h) hn⟩
theorem okQ_zero : okQ 0 := ⟨by have := one_lt_big'; show (0 : Int).natAbs < big; simp; omega, one_lt_big'⟩
theorem addQ_cases (x q : Rat) : (addQ x q = (rtoa (x + q), 0) ∧ okQ (x + q)) ∨ addQ x q = ([], 11) := by
  unfold addQ
  split
  · rename_i h
    simp only [allB, List.all_cons, List.all_nil, Bool.and_true, Bool.and_eq_true, decide_eq_true_eq] at h
    refine .inl ⟨rfl, ?_⟩
    rw [← add_divInt]
    exact okQ_divInt h.2.2.2 h.2.2.1 (Int.mul_ne_zero (den_ne x) (den_ne q))
  · exact .inr rfl
theorem rbin_ok {α : Type} (z : α) (f : Rat → Rat → α × Int) {p q : Rat} (hp : okQ p) (hq : okQ q) : rbin z f (rtoa p) (rtoa q) = f p q := by
  unfold rbin
  have h0 : firstR [rtoa p, rtoa q] = 0 := firstR_ok (qs := [p, q]) (by intro x hx; simp at hx; rcases hx with rfl | rfl <;> assumption)
  rw [if_pos h0, rv_rtoa, rv_rtoa]
theorem run1_ok {α : Type} (z : α) (f : Rat → α × Int) {p : Rat} (hp : okQ p) : run1 z f (rtoa p) = f p := by
  unfold run1
  rw [if_pos (rchk_rtoa hp), rv_rtoa]
theorem sumF_drop {qs : List Rat} {i : Nat} (h : i < qs.length) (x : Rat) : sumF (qs.drop i) x = if (addQ x qs[i]).2 = 0 then sumF (qs.drop (i + 1)) (x + qs[i]) else ([], (addQ x qs[i]).2) := by
  rw [List.drop_eq_getElem_cons h]; rfl
theorem map_rv (qs : List Rat) : (qs.map rtoa).map rv = qs := by
  rw [List.map_map]
  conv => rhs; rw [← List.map_id qs]
  exact List.map_congr_left fun q _ => rv_rtoa q
theorem sumF_bd : ∀ (l : List Rat) (x : Rat), 0 ≤ (sumF l x).2 ∧ (sumF l x).2 ≤ 11
  | [], _ => by unfold sumF; simp
  | q :: t, x => by
    unfold sumF
    split
    · exact sumF_bd t _
    · rcases addQ_cases x q with ⟨h, -⟩ | h <;> rw [h] <;> simp
theorem sum2_bd (ls : List Txt) : 0 ≤ (sum2 ls).2 ∧ (sum2 ls).2 ≤ 11 := by
  unfold sum2; split
  · simp
  · split
    · exact sumF_bd _ _
    · exact firstR_range ls
end Go.Proofs.Wk
