/- PLAIN MATHEMATICS, no program in sight: decimal texts, their values, and what canonical integers are. -/
import Derived.Lib.ItoaNum
namespace Mt
open Go.Lib (decDigits itoa)

abbrev Txt := List UInt8
def isD (c : UInt8) : Bool := 48 ≤ c && c ≤ 57
def dv (c : UInt8) : Nat := c.toNat - 48
/-- The number that digits spell. -/
def nat (l : Txt) : Nat := l.foldl (fun n c => 10 * n + dv c) 0
def allD (l : Txt) : Bool := l.all isD

theorem isD_iff (c : UInt8) : isD c = true ↔ 48 ≤ c.toNat ∧ c.toNat ≤ 57 := by
  unfold isD; simp [UInt8.le_iff_toNat_le]
theorem dv_lt {c : UInt8} (h : isD c = true) : dv c < 10 := by
  rw [isD_iff] at h; unfold dv; omega
theorem ofNat_dv {c : UInt8} (h : isD c = true) : UInt8.ofNat (48 + dv c) = c := by
  rw [isD_iff] at h
  apply UInt8.toNat.inj
  unfold dv
  simp [UInt8.toNat_ofNat']
  omega
theorem dv_ofNat {d : Nat} (h : d < 10) : dv (UInt8.ofNat (48 + d)) = d := by
  unfold dv; simp [UInt8.toNat_ofNat']; omega
theorem isD_ofNat {d : Nat} (h : d < 10) : isD (UInt8.ofNat (48 + d)) = true := by
  rw [isD_iff]; simp [UInt8.toNat_ofNat']; omega

theorem foldl_nat (l : Txt) : ∀ a, l.foldl (fun n c => 10 * n + dv c) a = a * 10 ^ l.length + nat l := by
  unfold nat
  induction l with
  | nil => intro a; simp
  | cons c t ih =>
    intro a
    simp only [List.foldl_cons, List.length_cons]
    rw [ih, ih (10 * 0 + dv c)]
    rw [Nat.pow_succ, Nat.add_mul, Nat.add_mul]
    simp only [Nat.mul_zero, Nat.zero_mul, Nat.zero_add]
    rw [Nat.mul_comm 10 a, Nat.mul_assoc, Nat.mul_comm 10 (10 ^ t.length)]
    omega
theorem nat_append (a b : Txt) : nat (a ++ b) = nat a * 10 ^ b.length + nat b := by
  unfold nat; rw [List.foldl_append, foldl_nat]; rfl
theorem nat_cons (c : UInt8) (t : Txt) : nat (c :: t) = dv c * 10 ^ t.length + nat t := by
  rw [show c :: t = [c] ++ t from rfl, nat_append]; simp [nat]
theorem nat_snoc (l : Txt) (c : UInt8) : nat (l ++ [c]) = 10 * nat l + dv c := by
  rw [nat_append]; simp [nat]; omega
theorem nat_nil : nat [] = 0 := rfl
theorem nat_one (c : UInt8) : nat [c] = dv c := by simp [nat]
theorem allD_cons (c : UInt8) (t : Txt) : allD (c :: t) = true ↔ isD c = true ∧ allD t = true := by simp [allD]
theorem allD_append (a b : Txt) : allD (a ++ b) = true ↔ allD a = true ∧ allD b = true := by simp [allD]
theorem allD_nil : allD [] = true := rfl
theorem nat_lt : ∀ (l : Txt), allD l = true → nat l < 10 ^ l.length
  | [], _ => by simp [nat]
  | c :: t, h => by
    rw [allD_cons] at h
    have := nat_lt t h.2
    have hd := dv_lt h.1
    rw [nat_cons, List.length_cons, Nat.pow_succ]
    have : (dv c + 1) * 10 ^ t.length ≤ 10 * 10 ^ t.length := Nat.mul_le_mul_right _ (by omega)
    rw [Nat.add_mul] at this
    omega

theorem decDigits_small {n : Nat} (h : n < 10) : decDigits n = [UInt8.ofNat (48 + n)] := by rw [decDigits, dif_pos h]
theorem decDigits_big {n : Nat} (h : ¬ n < 10) : decDigits n = decDigits (n / 10) ++ [UInt8.ofNat (48 + n % 10)] := by rw [decDigits, dif_neg h]
theorem allD_dec (n : Nat) : allD (decDigits n) = true := by
  induction n using Nat.strongRecOn with
  | _ n ih =>
    by_cases h : n < 10
    · rw [decDigits_small h, allD_cons]; exact ⟨isD_ofNat h, rfl⟩
    · rw [decDigits_big h, allD_append]
      exact ⟨ih _ (by omega), (allD_cons _ _).2 ⟨isD_ofNat (by omega), rfl⟩⟩
theorem nat_dec (n : Nat) : nat (decDigits n) = n := by
  induction n using Nat.strongRecOn with
  | _ n ih =>
    by_cases h : n < 10
    · rw [decDigits_small h, nat_one, dv_ofNat h]
    · rw [decDigits_big h, nat_snoc, ih _ (by omega), dv_ofNat (by omega)]; omega
theorem dec_ne_nil (n : Nat) : decDigits n ≠ [] := by
  by_cases h : n < 10
  · rw [decDigits_small h]; simp
  · rw [decDigits_big h]; simp
/-- Digits with none of value zero in front, or just 0. -/
def can (l : Txt) : Bool := !l.isEmpty && allD l && (l.head? != some 48 || l == [48])
theorem can_iff (l : Txt) : can l = true ↔ l ≠ [] ∧ allD l = true ∧ (l.head? = some 48 → l = [48]) := by
  unfold can
  cases l with
  | nil => simp
  | cons c t => 
    simp only [List.isEmpty_cons, Bool.not_false, Bool.true_and, Bool.and_eq_true, Bool.or_eq_true, List.head?_cons, bne_iff_ne, ne_eq, Option.some.injEq, beq_iff_eq]
    constructor
    · rintro ⟨h, h2⟩; exact ⟨by simp, h, fun e => h2.resolve_left (by simp [e])⟩
    · rintro ⟨_, h, h2⟩
      refine ⟨h, ?_⟩
      by_cases e : c = 48
      · exact .inr (h2 e)
      · exact .inl e
theorem head_dec (n : Nat) : (decDigits n).head? = some 48 → n = 0 := by
  induction n using Nat.strongRecOn with
  | _ n ih =>
    by_cases h : n < 10
    · rw [decDigits_small h]
      intro e
      simp only [List.head?_cons, Option.some.injEq] at e
      have := dv_ofNat h
      rw [e] at this
      exact this.symm
    · rw [decDigits_big h]
      intro e
      rw [List.head?_append] at e
      cases hx : (decDigits (n / 10)).head? with
      | none => rw [List.head?_eq_none_iff] at hx; exact absurd hx (dec_ne_nil _)
      | some y =>
        rw [hx] at e
        simp at e
        subst e
        have := ih (n / 10) (by omega) hx
        omega
theorem can_dec (n : Nat) : can (decDigits n) = true := by
  rw [can_iff]
  refine ⟨dec_ne_nil n, allD_dec n, fun h => ?_⟩
  have := head_dec n h
  subst this
  rw [decDigits_small (by omega)]
  rfl
theorem dv_pos {c : UInt8} (h : isD c = true) (h0 : c ≠ 48) : 1 ≤ dv c := by
  rw [isD_iff] at h
  unfold dv
  have : c.toNat ≠ 48 := fun e => h0 (UInt8.toNat.inj e)
  omega
/-- Two texts of digits of one length that spell one number are one. -/
theorem nat_inj : ∀ (a b : Txt), allD a = true → allD b = true → a.length = b.length → nat a = nat b → a = b
  | [], [], _, _, _, _ => rfl
  | [], _ :: _, _, _, h, _ => by simp at h
  | _ :: _, [], _, _, h, _ => by simp at h
  | c :: s, d :: t, ha, hb, hl, hn => by
    rw [allD_cons] at ha hb
    simp only [List.length_cons, Nat.add_right_cancel_iff] at hl
    rw [nat_cons, nat_cons, hl] at hn
    have h1 := nat_lt s ha.2
    have h2 := nat_lt t hb.2
    rw [hl] at h1
    have e : dv c = dv d := by
      have a1 : (dv c * 10 ^ t.length + nat s) / 10 ^ t.length = dv c := by
        rw [Nat.mul_comm, Nat.mul_add_div (Nat.pow_pos (by omega)), Nat.div_eq_of_lt h1]; rfl
      have a2 : (dv d * 10 ^ t.length + nat t) / 10 ^ t.length = dv d := by
        rw [Nat.mul_comm, Nat.mul_add_div (Nat.pow_pos (by omega)), Nat.div_eq_of_lt h2]; rfl
      rw [← a1, ← a2, hn]
    rw [e] at hn
    have hs := nat_inj s t ha.2 hb.2 hl (by omega)
    have hc : c = d := by rw [← ofNat_dv ha.1, ← ofNat_dv hb.1, e]
    rw [hc, hs]
theorem can_len {l : Txt} (h : can l = true) (h0 : l ≠ [48]) : 10 ^ (l.length - 1) ≤ nat l := by
  rw [can_iff] at h
  cases l with
  | nil => exact absurd rfl h.1
  | cons c t =>
    have hc : c ≠ 48 := fun e => h0 (h.2.2 (by simp [e]))
    have := dv_pos ((allD_cons c t).1 h.2.1).1 hc
    rw [nat_cons]
    simp only [List.length_cons, Nat.add_sub_cancel]
    have : 1 * 10 ^ t.length ≤ dv c * 10 ^ t.length := Nat.mul_le_mul_right _ this
    omega
theorem pow_mono {a b : Nat} (h : a ≤ b) : 10 ^ a ≤ 10 ^ b := Nat.pow_le_pow_right (by omega) h
/-- How long canonical digits are says how great they are. -/
theorem can_len_iff {l : Txt} (h : can l = true) {k : Nat} (hk : 1 ≤ k) : l.length ≤ k ↔ nat l < 10 ^ k := by
  constructor
  · intro hl
    have := nat_lt l ((can_iff l).1 h).2.1
    have := pow_mono hl
    omega
  · intro hn
    by_cases h0 : l = [48]
    · subst h0; simpa using hk
    · have := can_len h h0
      rcases Nat.lt_or_ge k l.length with hlt | hge
      · have : 10 ^ k ≤ 10 ^ (l.length - 1) := pow_mono (by omega)
        omega
      · exact hge
theorem can_inj {a b : Txt} (ha : can a = true) (hb : can b = true) (h : nat a = nat b) : a = b := by
  have a1 := (can_iff a).1 ha
  have b1 := (can_iff b).1 hb
  have la : 1 ≤ a.length := List.length_pos_iff.2 a1.1
  have lb : 1 ≤ b.length := List.length_pos_iff.2 b1.1
  have h1 : a.length ≤ b.length := (can_len_iff ha lb).2 (by rw [h]; exact nat_lt b b1.2.1)
  have h2 : b.length ≤ a.length := (can_len_iff hb la).2 (by rw [← h]; exact nat_lt a a1.2.1)
  exact nat_inj a b a1.2.1 b1.2.1 (by omega) h
theorem dec_nat {l : Txt} (h : can l = true) : decDigits (nat l) = l := can_inj (can_dec _) h (nat_dec _)
theorem dec_len_iff (n : Nat) {k : Nat} (hk : 1 ≤ k) : (decDigits n).length ≤ k ↔ n < 10 ^ k := by
  have := can_len_iff (can_dec n) hk
  rwa [nat_dec] at this
theorem nat_zero_iff {l : Txt} (h : can l = true) : nat l = 0 ↔ l = [48] := by
  constructor
  · intro e
    exact can_inj h (by decide) (by rw [e]; decide)
  · rintro rfl; decide

/-! ### Signs -/
def neg (l : Txt) : Bool := l.head? == some 45
/-- A text without a minus sign in front. -/
def body (l : Txt) : Txt := if neg l then l.tail else l
def val (l : Txt) : Int := if neg l then -(nat (body l) : Int) else (nat (body l) : Int)
/-- Canonical integers. -/
def canon (l : Txt) : Bool := can (body l) && (!neg l || body l != [48])
/-- The error of a text: 3 if it is not canonical, 11 if it is too long, else 0. -/
def chk (l : Txt) : Int := if canon l then (if 1024 < (body l).length then 11 else 0) else 3

theorem neg_cons (l : Txt) : neg (45 :: l) = true := rfl
theorem body_cons (l : Txt) : body (45 :: l) = l := rfl
theorem neg_of_can {l : Txt} (h : can l = true) : neg l = false := by
  rw [can_iff] at h
  cases l with
  | nil => exact absurd rfl h.1
  | cons c t =>
    have := ((allD_cons c t).1 h.2.1).1
    rw [isD_iff] at this
    unfold neg
    simp only [List.head?_cons, beq_eq_false_iff_ne, ne_eq, Option.some.injEq]
    rintro rfl
    simp at this
theorem body_of_can {l : Txt} (h : can l = true) : body l = l := by unfold body; rw [neg_of_can h]; rfl
theorem eq_body (l : Txt) : l = if neg l then 45 :: body l else body l := by
  unfold body neg
  cases l with
  | nil => rfl
  | cons c t =>
    simp only [List.head?_cons, beq_iff_eq, Option.some.injEq, List.tail_cons]
    split
    · rename_i h; rw [h]
    · rfl
theorem itoa_neg' {n : Int} (h : n < 0) : itoa n = 45 :: decDigits n.natAbs := by unfold itoa; rw [if_pos h]
theorem itoa_pos' {n : Int} (h : 0 ≤ n) : itoa n = decDigits n.natAbs := by
  unfold itoa; rw [if_neg (by omega), show n.toNat = n.natAbs by omega]
theorem neg_itoa (n : Int) : neg (itoa n) = decide (n < 0) := by
  by_cases h : n < 0
  · rw [itoa_neg' h]; simp [neg, h]
  · rw [itoa_pos' (by omega), neg_of_can (can_dec _)]; simp [h]
theorem body_itoa (n : Int) : body (itoa n) = decDigits n.natAbs := by
  by_cases h : n < 0
  · rw [itoa_neg' h, body_cons]
  · rw [itoa_pos' (by omega), body_of_can (can_dec _)]
theorem val_itoa (n : Int) : val (itoa n) = n := by
  unfold val
  rw [neg_itoa, body_itoa, nat_dec]
  by_cases h : n < 0
  · simp only [h, decide_true, if_true]; omega
  · simp only [h, decide_false, Bool.false_eq_true, if_false]; omega
theorem canon_iff (l : Txt) : canon l = true ↔ can (body l) = true ∧ (neg l = true → body l ≠ [48]) := by
  unfold canon
  cases neg l <;> simp
theorem canon_itoa (n : Int) : canon (itoa n) = true := by
  rw [canon_iff, body_itoa, neg_itoa]
  refine ⟨can_dec _, fun h => ?_⟩
  simp only [decide_eq_true_eq] at h
  intro e
  have := nat_dec n.natAbs
  rw [e] at this
  have e0 : nat [48] = 0 := by decide
  omega
theorem itoa_val {l : Txt} (h : canon l = true) : itoa (val l) = l := by
  rw [canon_iff] at h
  have hl := eq_body l
  unfold val
  cases hn : neg l with
  | true =>
    rw [hn] at hl
    simp only [if_true] at hl ⊢
    have hne : nat (body l) ≠ 0 := fun e => h.2 hn ((nat_zero_iff h.1).1 e)
    rw [itoa_neg' (by omega), show (-(nat (body l) : Int)).natAbs = nat (body l) by omega, dec_nat h.1, ← hl]
  | false =>
    rw [hn] at hl
    simp only [Bool.false_eq_true, if_false] at hl ⊢
    rw [itoa_pos' (by omega), show ((nat (body l) : Int)).natAbs = nat (body l) by omega, dec_nat h.1, ← hl]
theorem itoa_inj {m n : Int} (h : itoa m = itoa n) : m = n := by rw [← val_itoa m, ← val_itoa n, h]
theorem canon_ext {a b : Txt} (ha : canon a = true) (hb : canon b = true) (h : val a = val b) : a = b := by
  rw [← itoa_val ha, ← itoa_val hb, h]

theorem chk_cases (l : Txt) : (canon l = false ∧ chk l = 3) ∨ (canon l = true ∧ 1024 < (body l).length ∧ chk l = 11) ∨ (canon l = true ∧ (body l).length ≤ 1024 ∧ chk l = 0) := by
  unfold chk
  cases h : canon l with
  | false => simp
  | true =>
    by_cases h2 : 1024 < (body l).length
    · simp [h2]
    · simp [h2]; omega
theorem chk_zero {l : Txt} : chk l = 0 ↔ canon l = true ∧ (body l).length ≤ 1024 := by
  rcases chk_cases l with ⟨a, b⟩ | ⟨a, b, c⟩ | ⟨a, b, c⟩
  · simp [a, b]
  · simp [a, c]; omega
  · simp [a, b, c]
theorem chk_range (l : Txt) : 0 ≤ chk l ∧ chk l ≤ 11 := by
  rcases chk_cases l with ⟨a, b⟩ | ⟨a, b, c⟩ | ⟨a, b, c⟩ <;> omega
/-- The magnitude that is too great. -/
@[irreducible] def bigK : Nat := 1024
theorem bigK_eq : bigK = 1024 := by unfold bigK; rfl
def big : Nat := 10 ^ bigK
theorem len_big (n : Int) : (body (itoa n)).length ≤ 1024 ↔ n.natAbs < big := by
  rw [body_itoa, ← bigK_eq]; exact dec_len_iff _ (by rw [bigK_eq]; decide)
theorem chk_itoa (n : Int) : chk (itoa n) = if n.natAbs < big then 0 else 11 := by
  unfold chk
  rw [canon_itoa]
  simp only [if_true]
  have := len_big n
  by_cases h : n.natAbs < big
  · rw [if_neg (by have := this.2 h; omega), if_pos h]
  · rw [if_pos (by have : ¬ _ := fun x => h (this.1 x); omega), if_neg h]
theorem val_lt {l : Txt} (h : chk l = 0) : (val l).natAbs < big := by
  rw [chk_zero] at h
  have := (len_big (val l)).1 (by rw [itoa_val h.1]; exact h.2)
  exact this

/-- Digits without zeros in front, but at least one digit. -/
def bare : Txt → Txt
  | [] => []
  | [c] => [c]
  | c :: d :: t => if c = 48 then bare (d :: t) else c :: d :: t

theorem dec_zero : decDigits 0 = [48] := by rw [decDigits_small (by omega)]; rfl
theorem dec_eq_zero {n : Nat} (h : decDigits n = [48]) : n = 0 := by
  have := nat_dec n
  rw [h] at this
  exact this.symm
theorem itoa_zero : itoa 0 = [48] := by rw [itoa_pos' (by omega)]; exact dec_zero
theorem itoa_one : itoa 1 = [49] := itoa_val (l := [49]) (by decide)
theorem itoa_nat (n : Nat) : itoa (n : Int) = decDigits n := by rw [itoa_pos' (by omega)]; rfl
theorem itoa_negnat {n : Nat} (h : n ≠ 0) : itoa (-(n : Int)) = 45 :: decDigits n := by rw [itoa_neg' (by omega)]; simp
theorem itoa_eq_zero {n : Int} : itoa n = [48] ↔ n = 0 := by
  constructor
  · intro h; rw [← itoa_zero] at h; exact itoa_inj h
  · rintro rfl; exact itoa_zero
theorem itoa_ne_nil (n : Int) : itoa n ≠ [] := by
  by_cases h : n < 0
  · rw [itoa_neg' h]; simp
  · rw [itoa_pos' (by omega)]; exact dec_ne_nil _

/-- How many digits an integer has. -/
def lng (m : Int) : Nat := (decDigits m.natAbs).length
theorem lng_pos (m : Int) : 1 ≤ lng m := List.length_pos_iff.2 (dec_ne_nil _)
theorem lng_le (m : Int) {k : Nat} (hk : 1 ≤ k) : lng m ≤ k ↔ m.natAbs < 10 ^ k := dec_len_iff _ hk
theorem lng_lt (m : Int) : m.natAbs < 10 ^ lng m := (lng_le m (lng_pos m)).1 (Nat.le_refl _)
theorem lng_neg (m : Int) : lng (-m) = lng m := by unfold lng; rw [Int.natAbs_neg]
theorem lng_mono {m n : Int} (h : m.natAbs ≤ n.natAbs) : lng m ≤ lng n := (lng_le m (lng_pos n)).2 (by have := lng_lt n; omega)
theorem lng_add (m n : Int) {k : Nat} (hm : lng m ≤ k) (hn : lng n ≤ k) : lng (m + n) ≤ k + 1 := by
  have pm := lng_pos m
  have h1 := (lng_le m (by omega)).1 hm
  have h2 := (lng_le n (by omega)).1 hn
  refine (lng_le _ (by omega)).2 ?_
  rw [Nat.pow_succ]; omega
theorem lng_mul (m n : Int) {k j : Nat} (hm : lng m ≤ k) (hn : lng n ≤ j) : lng (m * n) ≤ k + j := by
  have pm := lng_pos m
  have pn := lng_pos n
  have h1 := (lng_le m (by omega)).1 hm
  have h2 := (lng_le n (by omega)).1 hn
  refine (lng_le _ (by omega)).2 ?_
  rw [Nat.pow_add, Int.natAbs_mul]; exact Nat.mul_lt_mul'' h1 h2
theorem lng_itoa (m : Int) : (itoa m).length ≤ lng m + 1 := by
  unfold lng
  by_cases h : m < 0
  · rw [itoa_neg' h]; simp
  · rw [itoa_pos' (by omega)]; omega
theorem lng_itoa_lo (m : Int) : lng m ≤ (itoa m).length := by
  unfold lng
  by_cases h : m < 0
  · rw [itoa_neg' h]; simp
  · rw [itoa_pos' (by omega)]; exact Nat.le_refl _
theorem lng18 (m : Int) : lng m ≤ 18 ↔ m.natAbs < 1000000000000000000 := by
  rw [lng_le m (by omega)]

theorem dec_int64 {n : Nat} (h : n ≤ 9223372036854775808) : (decDigits n).length ≤ 19 := by
  refine (dec_len_iff n (by omega)).2 ?_
  have e : (10 : Nat) ^ 19 = 10000000000000000000 := by decide
  rw [e]; omega

theorem dlen_add {a b k : Nat} (ha : (decDigits a).length ≤ k) (hb : (decDigits b).length ≤ k) : (decDigits (a + b)).length ≤ k + 1 := by
  have pa : 1 ≤ (decDigits a).length := List.length_pos_iff.2 (dec_ne_nil a)
  have h1 := (dec_len_iff a (by omega)).1 ha
  have h2 := (dec_len_iff b (by omega)).1 hb
  refine (dec_len_iff _ (by omega)).2 ?_
  rw [Nat.pow_succ]; omega
theorem dlen_mono {a b : Nat} (h : a ≤ b) : (decDigits a).length ≤ (decDigits b).length := by
  have pb : 1 ≤ (decDigits b).length := List.length_pos_iff.2 (dec_ne_nil b)
  have h1 := (dec_len_iff b pb).1 (Nat.le_refl _)
  exact (dec_len_iff a pb).2 (by omega)
theorem dlen_mul {a b k j : Nat} (ha : (decDigits a).length ≤ k) (hb : (decDigits b).length ≤ j) : (decDigits (a * b)).length ≤ k + j := by
  have pa : 1 ≤ (decDigits a).length := List.length_pos_iff.2 (dec_ne_nil a)
  have pb : 1 ≤ (decDigits b).length := List.length_pos_iff.2 (dec_ne_nil b)
  have h1 := (dec_len_iff a (by omega)).1 ha
  have h2 := (dec_len_iff b (by omega)).1 hb
  refine (dec_len_iff _ (by omega)).2 ?_
  rw [Nat.pow_add]; exact Nat.mul_lt_mul'' h1 h2

theorem mul11 {m n : Int} (hm : m < 0) (hn : n < 0) : ((m.natAbs * n.natAbs : Nat) : Int) = m * n := by
  rw [← Int.natAbs_mul]; exact Int.natAbs_of_nonneg (Int.le_of_lt (Int.mul_pos_of_neg_of_neg hm hn))
theorem mul00 {m n : Int} (hm : 0 ≤ m) (hn : 0 ≤ n) : ((m.natAbs * n.natAbs : Nat) : Int) = m * n := by
  rw [← Int.natAbs_mul]; exact Int.natAbs_of_nonneg (Int.mul_nonneg hm hn)
theorem mul10 {m n : Int} (hm : m < 0) (hn : 0 ≤ n) : -((m.natAbs * n.natAbs : Nat) : Int) = m * n := by
  have := mul00 (m := -m) (n := n) (by omega) hn
  rw [Int.natAbs_neg] at this
  rw [this, Int.neg_mul, Int.neg_neg]
theorem mul01 {m n : Int} (hm : 0 ≤ m) (hn : n < 0) : -((m.natAbs * n.natAbs : Nat) : Int) = m * n := by
  rw [Nat.mul_comm, mul10 hn hm, Int.mul_comm]
/-- The order of integers. -/
def cmp (m n : Int) : Int := if m < n then -1 else if n < m then 1 else 0
theorem cmp_lt {m n : Int} (h : m < n) : cmp m n = -1 := by unfold cmp; rw [if_pos h]
theorem cmp_gt {m n : Int} (h : n < m) : cmp m n = 1 := by unfold cmp; rw [if_neg (by omega), if_pos h]
theorem cmp_eq (m : Int) : cmp m m = 0 := by unfold cmp; rw [if_neg (by omega), if_neg (by omega)]
theorem lng_big {m : Int} (h : m.natAbs < big) : lng m ≤ 1024 := by
  rw [lng_le m (by omega), ← bigK_eq]; exact h
theorem lng_big_iff {m : Int} : lng m ≤ 1024 ↔ m.natAbs < big := by
  rw [lng_le m (by omega), ← bigK_eq]; exact Iff.rfl
theorem chk_pos {l : Txt} (h : chk l ≠ 0) : chk l = 3 ∨ chk l = 11 := by
  rcases chk_cases l with ⟨_, b⟩ | ⟨_, _, c⟩ | ⟨_, _, c⟩
  · exact .inl b
  · exact .inr c
  · exact absurd c h
theorem ok_text {l : Txt} (h : chk l = 0) : Go.Lib.itoa (val l) = l ∧ (val l).natAbs < big := ⟨itoa_val (chk_zero.1 h).1, val_lt h⟩

/-- The text of a result, or the error of one that is too long. -/
def kept (n : Int) : Txt × Int := if n.natAbs < big then (itoa n, 0) else ([], 11)
/-- The first error of two texts. -/
def both (a b : Txt) : Int := if chk a = 0 then chk b else chk a
/-- A function of two texts that are integers; else the first error. -/
def bin2 (f : Int → Int → Txt × Int) (a b : Txt) : Txt × Int := if both a b = 0 then f (val a) (val b) else ([], both a b)
def un1 (f : Int → Txt × Int) (a : Txt) : Txt × Int := if chk a = 0 then f (val a) else ([], chk a)
theorem both_zero {a b : Txt} : both a b = 0 ↔ chk a = 0 ∧ chk b = 0 := by
  unfold both
  by_cases h : chk a = 0
  · simp [h]
  · simp [h]
theorem both_range (a b : Txt) : 0 ≤ both a b ∧ both a b ≤ 11 := by
  unfold both; have := chk_range a; have := chk_range b; split <;> omega
end Mt
