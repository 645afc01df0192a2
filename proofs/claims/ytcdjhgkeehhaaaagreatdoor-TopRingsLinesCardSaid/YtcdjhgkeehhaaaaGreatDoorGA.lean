/- PLAIN MATHEMATICS, no program in sight: decimal texts, their values, and what canonical integers are. -/
import Derived.Lib.ItoaNum
import GoSem.Op.String
import Derived.Lib.AtoiAll
import Derived.Lib.SlTrimSet
import Derived.Lib.Bytealg
namespace Mt
open Go.Lib (decDigits itoa)

abbrev Txt := List UInt8
def isD (c : UInt8) : Bool := 48 ≤ c && c ≤ 57
def dv (c : UInt8) : Nat := c.toNat - 48
/-- The number that digits spell. -/
def nat (l : Txt) : Nat := l.foldl (fun n c => 10 * n + dv c) 0
def allD (l : Txt) : Bool := l.all isD

theorem isD_iff (c : UInt8) : isD c = true ↔ 48 ≤ c.toNat ∧ c.toNat ≤ 57 := by
  unfold isD; simp [UInt8.le_iff_toNat_le]
theorem dv_lt {c : UInt8} (h : isD c = true) : dv c < 10 := by
  rw [isD_iff] at h; unfold dv; omega
theorem ofNat_dv {c : UInt8} (h : isD c = true) : UInt8.ofNat (48 + dv c) = c := by
  rw [isD_iff] at h
  apply UInt8.toNat.inj
  unfold dv
  simp [UInt8.toNat_ofNat']
  omega
theorem dv_ofNat {d : Nat} (h : d < 10) : dv (UInt8.ofNat (48 + d)) = d := by
  unfold dv; simp [UInt8.toNat_ofNat']; omega
theorem isD_ofNat {d : Nat} (h : d < 10) : isD (UInt8.ofNat (48 + d)) = true := by
  rw [isD_iff]; simp [UInt8.toNat_ofNat']; omega

theorem foldl_nat (l : Txt) : ∀ a, l.foldl (fun n c => 10 * n + dv c) a = a * 10 ^ l.length + nat l := by
  unfold nat
  induction l with
  | nil => intro a; simp
  | cons c t ih =>
    intro a
    simp only [List.foldl_cons, List.length_cons]
    rw [ih, ih (10 * 0 + dv c)]
    rw [Nat.pow_succ, Nat.add_mul, Nat.add_mul]
    simp only [Nat.mul_zero, Nat.zero_mul, Nat.zero_add]
    rw [Nat.mul_comm 10 a, Nat.mul_assoc, Nat.mul_comm 10 (10 ^ t.length)]
    omega
theorem nat_append (a b : Txt) : nat (a ++ b) = nat a * 10 ^ b.length + nat b := by
  unfold nat; rw [List.foldl_append, foldl_nat]; rfl
theorem nat_cons (c : UInt8) (t : Txt) : nat (c :: t) = dv c * 10 ^ t.length + nat t := by
  rw [show c :: t = [c] ++ t from rfl, nat_append]; simp [nat]
theorem nat_snoc (l : Txt) (c : UInt8) : nat (l ++ [c]) = 10 * nat l + dv c := by
  rw [nat_append]; simp [nat]; omega
theorem nat_nil : nat [] = 0 := rfl
theorem nat_one (c : UInt8) : nat [c] = dv c := by simp [nat]
theorem allD_cons (c : UInt8) (t : Txt) : allD (c :: t) = true ↔ isD c = true ∧ allD t = true := by simp [allD]
theorem allD_append (a b : Txt) : allD (a ++ b) = true ↔ allD a = true ∧ allD b = true := by simp [allD]
theorem allD_nil : allD [] = true := rfl
theorem nat_lt : ∀ (l : Txt), allD l = true → nat l < 10 ^ l.length
  | [], _ => by simp [nat]
  | c :: t, h => by
    rw [allD_cons] at h
    have := nat_lt t h.2
    have hd := dv_lt h.1
    rw [nat_cons, List.length_cons, Nat.pow_succ]
    have : (dv c + 1) * 10 ^ t.length ≤ 10 * 10 ^ t.length := Nat.mul_le_mul_right _ (by omega)
    rw [Nat.add_mul] at this
    omega

theorem decDigits_small {n : Nat} (h : n < 10) : decDigits n = [UInt8.ofNat (48 + n)] := by rw [decDigits, dif_pos h]
theorem decDigits_big {n : Nat} (h : ¬ n < 10) : decDigits n = decDigits (n / 10) ++ [UInt8.ofNat (48 + n % 10)] := by rw [decDigits, dif_neg h]
theorem allD_dec (n : Nat) : allD (decDigits n) = true := by
  induction n using Nat.strongRecOn with
  | _ n ih =>
    by_cases h : n < 10
    · rw [decDigits_small h, allD_cons]; exact ⟨isD_ofNat h, rfl⟩
    · rw [decDigits_big h, allD_append]
      exact ⟨ih _ (by omega), (allD_cons _ _).2 ⟨isD_ofNat (by omega), rfl⟩⟩
theorem nat_dec (n : Nat) : nat (decDigits n) = n := by
  induction n using Nat.strongRecOn with
  | _ n ih =>
    by_cases h : n < 10
    · rw [decDigits_small h, nat_one, dv_ofNat h]
    · rw [decDigits_big h, nat_snoc, ih _ (by omega), dv_ofNat (by omega)]; omega
theorem dec_ne_nil (n : Nat) : decDigits n ≠ [] := by
  by_cases h : n < 10
  · rw [decDigits_small h]; simp
  · rw [decDigits_big h]; simp
/-- Digits with none of value zero in front, or just 0. -/
def can (l : Txt) : Bool := !l.isEmpty && allD l && (l.head? != some 48 || l == [48])
theorem can_iff (l : Txt) : can l = true ↔ l ≠ [] ∧ allD l = true ∧ (l.head? = some 48 → l = [48]) := by
  unfold can
  cases l with
  | nil => simp
  | cons c t => 
    simp only [List.isEmpty_cons, Bool.not_false, Bool.true_and, Bool.and_eq_true, Bool.or_eq_true, List.head?_cons, bne_iff_ne, ne_eq, Option.some.injEq, beq_iff_eq]
    constructor
    · rintro ⟨h, h2⟩; exact ⟨by simp, h, fun e => h2.resolve_left (by simp [e])⟩
    · rintro ⟨_, h, h2⟩
      refine ⟨h, ?_⟩
      by_cases e : c = 48
      · exact .inr (h2 e)
      · exact .inl e
theorem head_dec (n : Nat) : (decDigits n).head? = some 48 → n = 0 := by
  induction n using Nat.strongRecOn with
  | _ n ih =>
    by_cases h : n < 10
    · rw [decDigits_small h]
      intro e
      simp only [List.head?_cons, Option.some.injEq] at e
      have := dv_ofNat h
      rw [e] at this
      exact this.symm
    · rw [decDigits_big h]
      intro e
      rw [List.head?_append] at e
      cases hx : (decDigits (n / 10)).head? with
      | none => rw [List.head?_eq_none_iff] at hx; exact absurd hx (dec_ne_nil _)
      | some y =>
        rw [hx] at e
        simp at e
        subst e
        have := ih (n / 10) (by omega) hx
        omega
theorem can_dec (n : Nat) : can (decDigits n) = true := by
  rw [can_iff]
  refine ⟨dec_ne_nil n, allD_dec n, fun h => ?_⟩
  have := head_dec n h
  subst this
  rw [decDigits_small (by omega)]
  rfl
theorem dv_pos {c : UInt8} (h : isD c = true) (h0 : c ≠ 48) : 1 ≤ dv c := by
  rw [isD_iff] at h
  unfold dv
  have : c.toNat ≠ 48 := fun e => h0 (UInt8.toNat.inj e)
  omega
/-- Two texts of digits of one length that spell one number are one. -/
theorem nat_inj : ∀ (a b : Txt), allD a = true → allD b = true → a.length = b.length → nat a = nat b → a = b
  | [], [], _, _, _, _ => rfl
  | [], _ :: _, _, _, h, _ => by simp at h
  | _ :: _, [], _, _, h, _ => by simp at h
  | c :: s, d :: t, ha, hb, hl, hn => by
    rw [allD_cons] at ha hb
    simp only [List.length_cons, Nat.add_right_cancel_iff] at hl
    rw [nat_cons, nat_cons, hl] at hn
    have h1 := nat_lt s ha.2
    have h2 := nat_lt t hb.2
    rw [hl] at h1
    have e : dv c = dv d := by
      have a1 : (dv c * 10 ^ t.length + nat s) / 10 ^ t.length = dv c := by
        rw [Nat.mul_comm, Nat.mul_add_div (Nat.pow_pos (by omega)), Nat.div_eq_of_lt h1]; rfl
      have a2 : (dv d * 10 ^ t.length + nat t) / 10 ^ t.length = dv d := by
        rw [Nat.mul_comm, Nat.mul_add_div (Nat.pow_pos (by omega)), Nat.div_eq_of_lt h2]; rfl
      rw [← a1, ← a2, hn]
    rw [e] at hn
    have hs := nat_inj s t ha.2 hb.2 hl (by omega)
    have hc : c = d := by rw [← ofNat_dv ha.1, ← ofNat_dv hb.1, e]
    rw [hc, hs]
theorem can_len {l : Txt} (h : can l = true) (h0 : l ≠ [48]) : 10 ^ (l.length - 1) ≤ nat l := by
  rw [can_iff] at h
  cases l with
  | nil => exact absurd rfl h.1
  | cons c t =>
    have hc : c ≠ 48 := fun e => h0 (h.2.2 (by simp [e]))
    have := dv_pos ((allD_cons c t).1 h.2.1).1 hc
    rw [nat_cons]
    simp only [List.length_cons, Nat.add_sub_cancel]
    have : 1 * 10 ^ t.length ≤ dv c * 10 ^ t.length := Nat.mul_le_mul_right _ this
    omega
theorem pow_mono {a b : Nat} (h : a ≤ b) : 10 ^ a ≤ 10 ^ b := Nat.pow_le_pow_right (by omega) h
/-- How long canonical digits are says how great they are. -/
theorem can_len_iff {l : Txt} (h : can l = true) {k : Nat} (hk : 1 ≤ k) : l.length ≤ k ↔ nat l < 10 ^ k := by
  constructor
  · intro hl
    have := nat_lt l ((can_iff l).1 h).2.1
    have := pow_mono hl
    omega
  · intro hn
    by_cases h0 : l = [48]
    · subst h0; simpa using hk
    · have := can_len h h0
      rcases Nat.lt_or_ge k l.length with hlt | hge
      · have : 10 ^ k ≤ 10 ^ (l.length - 1) := pow_mono (by omega)
        omega
      · exact hge
theorem can_inj {a b : Txt} (ha : can a = true) (hb : can b = true) (h : nat a = nat b) : a = b := by
  have a1 := (can_iff a).1 ha
  have b1 := (can_iff b).1 hb
  have la : 1 ≤ a.length := List.length_pos_iff.2 a1.1
  have lb : 1 ≤ b.length := List.length_pos_iff.2 b1.1
  have h1 : a.length ≤ b.length := (can_len_iff ha lb).2 (by rw [h]; exact nat_lt b b1.2.1)
  have h2 : b.length ≤ a.length := (can_len_iff hb la).2 (by rw [← h]; exact nat_lt a a1.2.1)
  exact nat_inj a b a1.2.1 b1.2.1 (by omega) h
theorem dec_nat {l : Txt} (h : can l = true) : decDigits (nat l) = l := can_inj (can_dec _) h (nat_dec _)
theorem dec_len_iff (n : Nat) {k : Nat} (hk : 1 ≤ k) : (decDigits n).length ≤ k ↔ n < 10 ^ k := by
  have := can_len_iff (can_dec n) hk
  rwa [nat_dec] at this
theorem nat_zero_iff {l : Txt} (h : can l = true) : nat l = 0 ↔ l = [48] := by
  constructor
  · intro e
    exact can_inj h (by decide) (by rw [e]; decide)
  · rintro rfl; decide

/-! ### Signs -/
def neg (l : Txt) : Bool := l.head? == some 45
/-- A text without a minus sign in front. -/
def body (l : Txt) : Txt := if neg l then l.tail else l
def val (l : Txt) : Int := if neg l then -(nat (body l) : Int) else (nat (body l) : Int)
/-- Canonical integers. -/
def canon (l : Txt) : Bool := can (body l) && (!neg l || body l != [48])
/-- The error of a text: 3 if it is not canonical, 11 if it is too long, else 0. -/
def chk (l : Txt) : Int := if canon l then (if 1024 < (body l).length then 11 else 0) else 3

theorem neg_cons (l : Txt) : neg (45 :: l) = true := rfl
theorem body_cons (l : Txt) : body (45 :: l) = l := rfl
theorem neg_of_can {l : Txt} (h : can l = true) : neg l = false := by
  rw [can_iff] at h
  cases l with
  | nil => exact absurd rfl h.1
  | cons c t =>
    have := ((allD_cons c t).1 h.2.1).1
    rw [isD_iff] at this
    unfold neg
    simp only [List.head?_cons, beq_eq_false_iff_ne, ne_eq, Option.some.injEq]
    rintro rfl
    simp at this
theorem body_of_can {l : Txt} (h : can l = true) : body l = l := by unfold body; rw [neg_of_can h]; rfl
theorem eq_body (l : Txt) : l = if neg l then 45 :: body l else body l := by
  unfold body neg
  cases l with
  | nil => rfl
  | cons c t =>
    simp only [List.head?_cons, beq_iff_eq, Option.some.injEq, List.tail_cons]
    split
    · rename_i h; rw [h]
    · rfl
theorem itoa_neg' {n : Int} (h : n < 0) : itoa n = 45 :: decDigits n.natAbs := by unfold itoa; rw [if_pos h]
theorem itoa_pos' {n : Int} (h : 0 ≤ n) : itoa n = decDigits n.natAbs := by
  unfold itoa; rw [if_neg (by omega), show n.toNat = n.natAbs by omega]
theorem neg_itoa (n : Int) : neg (itoa n) = decide (n < 0) := by
  by_cases h : n < 0
  · rw [itoa_neg' h]; simp [neg, h]
  · rw [itoa_pos' (by omega), neg_of_can (can_dec _)]; simp [h]
theorem body_itoa (n : Int) : body (itoa n) = decDigits n.natAbs := by
  by_cases h : n < 0
  · rw [itoa_neg' h, body_cons]
  · rw [itoa_pos' (by omega), body_of_can (can_dec _)]
theorem val_itoa (n : Int) : val (itoa n) = n := by
  unfold val
  rw [neg_itoa, body_itoa, nat_dec]
  by_cases h : n < 0
  · simp only [h, decide_true, if_true]; omega
  · simp only [h, decide_false, Bool.false_eq_true, if_false]; omega
theorem canon_iff (l : Txt) : canon l = true ↔ can (body l) = true ∧ (neg l = true → body l ≠ [48]) := by
  unfold canon
  cases neg l <;> simp
theorem canon_itoa (n : Int) : canon (itoa n) = true := by
  rw [canon_iff, body_itoa, neg_itoa]
  refine ⟨can_dec _, fun h => ?_⟩
  simp only [decide_eq_true_eq] at h
  intro e
  have := nat_dec n.natAbs
  rw [e] at this
  have e0 : nat [48] = 0 := by decide
  omega
theorem itoa_val {l : Txt} (h : canon l = true) : itoa (val l) = l := by
  rw [canon_iff] at h
  have hl := eq_body l
  unfold val
  cases hn : neg l with
  | true =>
    rw [hn] at hl
    simp only [if_true] at hl ⊢
    have hne : nat (body l) ≠ 0 := fun e => h.2 hn ((nat_zero_iff h.1).1 e)
    rw [itoa_neg' (by omega), show (-(nat (body l) : Int)).natAbs = nat (body l) by omega, dec_nat h.1, ← hl]
  | false =>
    rw [hn] at hl
    simp only [Bool.false_eq_true, if_false] at hl ⊢
    rw [itoa_pos' (by omega), show ((nat (body l) : Int)).natAbs = nat (body l) by omega, dec_nat h.1, ← hl]
theorem itoa_inj {m n : Int} (h : itoa m = itoa n) : m = n := by rw [← val_itoa m, ← val_itoa n, h]
theorem canon_ext {a b : Txt} (ha : canon a = true) (hb : canon b = true) (h : val a = val b) : a = b := by
  rw [← itoa_val ha, ← itoa_val hb, h]

theorem chk_cases (l : Txt) : (canon l = false ∧ chk l = 3) ∨ (canon l = true ∧ 1024 < (body l).length ∧ chk l = 11) ∨ (canon l = true ∧ (body l).length ≤ 1024 ∧ chk l = 0) := by
  unfold chk
  cases h : canon l with
  | false => simp
  | true =>
    by_cases h2 : 1024 < (body l).length
    · simp [h2]
    · simp [h2]; omega
theorem chk_zero {l : Txt} : chk l = 0 ↔ canon l = true ∧ (body l).length ≤ 1024 := by
  rcases chk_cases l with ⟨a, b⟩ | ⟨a, b, c⟩ | ⟨a, b, c⟩
  · simp [a, b]
  · simp [a, c]; omega
  · simp [a, b, c]
theorem chk_range (l : Txt) : 0 ≤ chk l ∧ chk l ≤ 11 := by
  rcases chk_cases l with ⟨a, b⟩ | ⟨a, b, c⟩ | ⟨a, b, c⟩ <;> omega
/-- The magnitude that is too great. -/
@[irreducible] def bigK : Nat := 1024
theorem bigK_eq : bigK = 1024 := by unfold bigK; rfl
def big : Nat := 10 ^ bigK
theorem len_big (n : Int) : (body (itoa n)).length ≤ 1024 ↔ n.natAbs < big := by
  rw [body_itoa, ← bigK_eq]; exact dec_len_iff _ (by rw [bigK_eq]; decide)
theorem chk_itoa (n : Int) : chk (itoa n) = if n.natAbs < big then 0 else 11 := by
  unfold chk
  rw [canon_itoa]
  simp only [if_true]
  have := len_big n
  by_cases h : n.natAbs < big
  · rw [if_neg (by have := this.2 h; omega), if_pos h]
  · rw [if_pos (by have : ¬ _ := fun x => h (this.1 x); omega), if_neg h]
theorem val_lt {l : Txt} (h : chk l = 0) : (val l).natAbs < big := by
  rw [chk_zero] at h
  have := (len_big (val l)).1 (by rw [itoa_val h.1]; exact h.2)
  exact this

/-- Digits without zeros in front, but at least one digit. -/
def bare : Txt → Txt
  | [] => []
  | [c] => [c]
  | c :: d :: t => if c = 48 then bare (d :: t) else c :: d :: t

theorem dec_zero : decDigits 0 = [48] := by rw [decDigits_small (by omega)]; rfl
theorem dec_eq_zero {n : Nat} (h : decDigits n = [48]) : n = 0 := by
  have := nat_dec n
  rw [h] at this
  exact this.symm
theorem itoa_zero : itoa 0 = [48] := by rw [itoa_pos' (by omega)]; exact dec_zero
theorem itoa_one : itoa 1 = [49] := itoa_val (l := [49]) (by decide)
theorem itoa_nat (n : Nat) : itoa (n : Int) = decDigits n := by rw [itoa_pos' (by omega)]; rfl
theorem itoa_negnat {n : Nat} (h : n ≠ 0) : itoa (-(n : Int)) = 45 :: decDigits n := by rw [itoa_neg' (by omega)]; simp
theorem itoa_eq_zero {n : Int} : itoa n = [48] ↔ n = 0 := by
  constructor
  · intro h; rw [← itoa_zero] at h; exact itoa_inj h
  · rintro rfl; exact itoa_zero
theorem itoa_ne_nil (n : Int) : itoa n ≠ [] := by
  by_cases h : n < 0
  · rw [itoa_neg' h]; simp
  · rw [itoa_pos' (by omega)]; exact dec_ne_nil _

/-- How many digits an integer has. -/
def lng (m : Int) : Nat := (decDigits m.natAbs).length
theorem lng_pos (m : Int) : 1 ≤ lng m := List.length_pos_iff.2 (dec_ne_nil _)
theorem lng_le (m : Int) {k : Nat} (hk : 1 ≤ k) : lng m ≤ k ↔ m.natAbs < 10 ^ k := dec_len_iff _ hk
theorem lng_lt (m : Int) : m.natAbs < 10 ^ lng m := (lng_le m (lng_pos m)).1 (Nat.le_refl _)
theorem lng_neg (m : Int) : lng (-m) = lng m := by unfold lng; rw [Int.natAbs_neg]
theorem lng_mono {m n : Int} (h : m.natAbs ≤ n.natAbs) : lng m ≤ lng n := (lng_le m (lng_pos n)).2 (by have := lng_lt n; omega)
theorem lng_add (m n : Int) {k : Nat} (hm : lng m ≤ k) (hn : lng n ≤ k) : lng (m + n) ≤ k + 1 := by
  have pm := lng_pos m
  have h1 := (lng_le m (by omega)).1 hm
  have h2 := (lng_le n (by omega)).1 hn
  refine (lng_le _ (by omega)).2 ?_
  rw [Nat.pow_succ]; omega
theorem lng_mul (m n : Int) {k j : Nat} (hm : lng m ≤ k) (hn : lng n ≤ j) : lng (m * n) ≤ k + j := by
  have pm := lng_pos m
  have pn := lng_pos n
  have h1 := (lng_le m (by omega)).1 hm
  have h2 := (lng_le n (by omega)).1 hn
  refine (lng_le _ (by omega)).2 ?_
  rw [Nat.pow_add, Int.natAbs_mul]; exact Nat.mul_lt_mul'' h1 h2
theorem lng_itoa (m : Int) : (itoa m).length ≤ lng m + 1 := by
  unfold lng
  by_cases h : m < 0
  · rw [itoa_neg' h]; simp
  · rw [itoa_pos' (by omega)]; omega
theorem lng_itoa_lo (m : Int) : lng m ≤ (itoa m).length := by
  unfold lng
  by_cases h : m < 0
  · rw [itoa_neg' h]; simp
  · rw [itoa_pos' (by omega)]; exact Nat.le_refl _
theorem lng18 (m : Int) : lng m ≤ 18 ↔ m.natAbs < 1000000000000000000 := by
  rw [lng_le m (by omega)]

theorem dec_int64 {n : Nat} (h : n ≤ 9223372036854775808) : (decDigits n).length ≤ 19 := by
  refine (dec_len_iff n (by omega)).2 ?_
  have e : (10 : Nat) ^ 19 = 10000000000000000000 := by decide
  rw [e]; omega

theorem dlen_add {a b k : Nat} (ha : (decDigits a).length ≤ k) (hb : (decDigits b).length ≤ k) : (decDigits (a + b)).length ≤ k + 1 := by
  have pa : 1 ≤ (decDigits a).length := List.length_pos_iff.2 (dec_ne_nil a)
  have h1 := (dec_len_iff a (by omega)).1 ha
  have h2 := (dec_len_iff b (by omega)).1 hb
  refine (dec_len_iff _ (by omega)).2 ?_
  rw [Nat.pow_succ]; omega
theorem dlen_mono {a b : Nat} (h : a ≤ b) : (decDigits a).length ≤ (decDigits b).length := by
  have pb : 1 ≤ (decDigits b).length := List.length_pos_iff.2 (dec_ne_nil b)
  have h1 := (dec_len_iff b pb).1 (Nat.le_refl _)
  exact (dec_len_iff a pb).2 (by omega)
theorem dlen_mul {a b k j : Nat} (ha : (decDigits a).length ≤ k) (hb : (decDigits b).length ≤ j) : (decDigits (a * b)).length ≤ k + j := by
  have pa : 1 ≤ (decDigits a).length := List.length_pos_iff.2 (dec_ne_nil a)
  have pb : 1 ≤ (decDigits b).length := List.length_pos_iff.2 (dec_ne_nil b)
  have h1 := (dec_len_iff a (by omega)).1 ha
  have h2 := (dec_len_iff b (by omega)).1 hb
  refine (dec_len_iff _ (by omega)).2 ?_
  rw [Nat.pow_add]; exact Nat.mul_lt_mul'' h1 h2

theorem mul11 {m n : Int} (hm : m < 0) (hn : n < 0) : ((m.natAbs * n.natAbs : Nat) : Int) = m * n := by
  rw [← Int.natAbs_mul]; exact Int.natAbs_of_nonneg (Int.le_of_lt (Int.mul_pos_of_neg_of_neg hm hn))
theorem mul00 {m n : Int} (hm : 0 ≤ m) (hn : 0 ≤ n) : ((m.natAbs * n.natAbs : Nat) : Int) = m * n := by
  rw [← Int.natAbs_mul]; exact Int.natAbs_of_nonneg (Int.mul_nonneg hm hn)
theorem mul10 {m n : Int} (hm : m < 0) (hn : 0 ≤ n) : -((m.natAbs * n.natAbs : Nat) : Int) = m * n := by
  have := mul00 (m := -m) (n := n) (by omega) hn
  rw [Int.natAbs_neg] at this
  rw [this, Int.neg_mul, Int.neg_neg]
theorem mul01 {m n : Int} (hm : 0 ≤ m) (hn : n < 0) : -((m.natAbs * n.natAbs : Nat) : Int) = m * n := by
  rw [Nat.mul_comm, mul10 hn hm, Int.mul_comm]
/-- The order of integers. -/
def cmp (m n : Int) : Int := if m < n then -1 else if n < m then 1 else 0
theorem cmp_lt {m n : Int} (h : m < n) : cmp m n = -1 := by unfold cmp; rw [if_pos h]
theorem cmp_gt {m n : Int} (h : n < m) : cmp m n = 1 := by unfold cmp; rw [if_neg (by omega), if_pos h]
theorem cmp_eq (m : Int) : cmp m m = 0 := by unfold cmp; rw [if_neg (by omega), if_neg (by omega)]
theorem lng_big {m : Int} (h : m.natAbs < big) : lng m ≤ 1024 := by
  rw [lng_le m (by omega), ← bigK_eq]; exact h
theorem lng_big_iff {m : Int} : lng m ≤ 1024 ↔ m.natAbs < big := by
  rw [lng_le m (by omega), ← bigK_eq]; exact Iff.rfl
theorem chk_pos {l : Txt} (h : chk l ≠ 0) : chk l = 3 ∨ chk l = 11 := by
  rcases chk_cases l with ⟨_, b⟩ | ⟨_, _, c⟩ | ⟨_, _, c⟩
  · exact .inl b
  · exact .inr c
  · exact absurd c h
theorem ok_text {l : Txt} (h : chk l = 0) : Go.Lib.itoa (val l) = l ∧ (val l).natAbs < big := ⟨itoa_val (chk_zero.1 h).1, val_lt h⟩

/-- The text of a result, or the error of one that is too long. -/
def kept (n : Int) : Txt × Int := if n.natAbs < big then (itoa n, 0) else ([], 11)
/-- The first error of two texts. -/
def both (a b : Txt) : Int := if chk a = 0 then chk b else chk a
/-- A function of two texts that are integers; else the first error. -/
def bin2 (f : Int → Int → Txt × Int) (a b : Txt) : Txt × Int := if both a b = 0 then f (val a) (val b) else ([], both a b)
def un1 (f : Int → Txt × Int) (a : Txt) : Txt × Int := if chk a = 0 then f (val a) else ([], chk a)
theorem both_zero {a b : Txt} : both a b = 0 ↔ chk a = 0 ∧ chk b = 0 := by
  unfold both
  by_cases h : chk a = 0
  · simp [h]
  · simp [h]
theorem both_range (a b : Txt) : 0 ≤ both a b ∧ both a b ≤ 11 := by
  unfold both; have := chk_range a; have := chk_range b; split <;> omega
end Mt
/- PLAIN MATHEMATICS of the reference's paper sums, products and quotients on digits. -/
namespace Mt
open Go.Lib (decDigits itoa)

/-! ### comparing digits -/
theorem less_len : ∀ (a b : Txt), allD a = true → allD b = true → a.length = b.length → Go.Op.bytesLess a b = decide (nat a < nat b)
  | [], [], _, _, _ => by simp [Go.Op.bytesLess, nat]
  | [], _ :: _, _, _, h => by simp at h
  | _ :: _, [], _, _, h => by simp at h
  | c :: s, d :: t, ha, hb, hl => by
    rw [allD_cons] at ha hb
    simp only [List.length_cons, Nat.add_right_cancel_iff] at hl
    have h1 := nat_lt s ha.2
    have h2 := nat_lt t hb.2
    rw [hl] at h1
    rw [Go.Op.bytesLess, less_len s t ha.2 hb.2 hl, nat_cons, nat_cons, hl]
    have c1 := (isD_iff c).1 ha.1
    have d1 := (isD_iff d).1 hb.1
    rw [Bool.eq_iff_iff]
    simp only [Bool.or_eq_true, Bool.and_eq_true, decide_eq_true_eq, beq_iff_eq, UInt8.lt_iff_toNat_lt]
    constructor
    · rintro (h | ⟨h, h3⟩)
      · have : (dv c + 1) * 10 ^ t.length ≤ dv d * 10 ^ t.length := Nat.mul_le_mul_right _ (by unfold dv; omega)
        rw [Nat.add_mul] at this
        omega
      · subst h; omega
    · intro h
      by_cases e : c = d
      · subst e; exact .inr ⟨rfl, by omega⟩
      · left
        rcases Nat.lt_or_ge c.toNat d.toNat with h4 | h4
        · exact h4
        · exfalso
          have hne : c.toNat ≠ d.toNat := fun x => e (UInt8.toNat.inj x)
          have : (dv d + 1) * 10 ^ t.length ≤ dv c * 10 ^ t.length := Nat.mul_le_mul_right _ (by unfold dv; omega)
          rw [Nat.add_mul] at this
          omega
theorem dec_less {m n : Nat} (h : (decDigits m).length = (decDigits n).length) : Go.Op.bytesLess (decDigits m) (decDigits n) = decide (m < n) := by
  rw [less_len _ _ (allD_dec m) (allD_dec n) h, nat_dec, nat_dec]
theorem dec_len_pos (n : Nat) : 1 ≤ (decDigits n).length := List.length_pos_iff.2 (dec_ne_nil n)
theorem lt_pow_len (n : Nat) : n < 10 ^ (decDigits n).length := (dec_len_iff n (dec_len_pos n)).1 (Nat.le_refl _)
theorem dec_len_lt {m n : Nat} (h : (decDigits m).length < (decDigits n).length) : m < n := by
  have h1 := lt_pow_len m
  rcases Nat.lt_or_ge n (10 ^ (decDigits m).length) with h2 | h2
  · have := (dec_len_iff n (dec_len_pos m)).2 h2; omega
  · omega
theorem dec_len_mono {m n : Nat} (h : m ≤ n) : (decDigits m).length ≤ (decDigits n).length := by
  have h1 := lt_pow_len n
  exact (dec_len_iff m (dec_len_pos n)).2 (by omega)
theorem dec_len_bound {n k : Nat} (hk : 1 ≤ k) (h : n < 10 ^ k) : (decDigits n).length ≤ k := (dec_len_iff n hk).2 h

/-! ### digits without zeros in front -/
theorem bare_spec : ∀ (l : Txt), l ≠ [] → allD l = true → bare l = decDigits (nat l)
  | [], h, _ => absurd rfl h
  | [c], _, h => by
    have hd : isD c = true := ((allD_cons c []).1 h).1
    rw [bare, nat_one, decDigits_small (dv_lt hd), ofNat_dv hd]
  | c :: d :: t, _, h => by
    rw [allD_cons] at h
    rw [bare]
    by_cases hc : c = 48
    · subst hc
      rw [if_pos rfl, bare_spec (d :: t) (by simp) h.2, nat_cons 48 (d :: t)]
      have : dv 48 = 0 := by decide
      rw [this]; simp
    · rw [if_neg hc]
      refine (dec_nat ?_).symm
      rw [can_iff]
      refine ⟨by simp, (allD_cons _ _).2 h, fun e => absurd ?_ hc⟩
      simpa using e
theorem nat_zeros (k : Nat) : nat (List.replicate k 48) = 0 := by
  induction k with
  | zero => rfl
  | succ k ih => rw [List.replicate_succ, nat_cons, ih]; have : dv 48 = 0 := by decide
                 rw [this]; simp
theorem allD_zeros (k : Nat) : allD (List.replicate k 48) = true := by
  unfold allD; rw [List.all_eq_true]; intro c hc; rw [List.eq_of_mem_replicate hc]; decide
theorem nat_pad (k : Nat) (l : Txt) : nat (List.replicate k 48 ++ l) = nat l := by rw [nat_append, nat_zeros]; simp
theorem allD_pad (k : Nat) {l : Txt} (h : allD l = true) : allD (List.replicate k 48 ++ l) = true := (allD_append _ _).2 ⟨allD_zeros k, h⟩

/-- A digit. -/
def ch (d : Nat) : UInt8 := UInt8.ofNat (48 + d)
theorem ch_toNat {d : Nat} (h : d < 10) : (ch d).toNat = 48 + d := by unfold ch; simp [UInt8.toNat_ofNat']; omega
theorem dv_ch {d : Nat} (h : d < 10) : dv (ch d) = d := dv_ofNat h
theorem isD_ch {d : Nat} (h : d < 10) : isD (ch d) = true := isD_ofNat h

theorem drop_at {l : Txt} {k : Nat} (h : k < l.length) : l.drop k = l[k] :: l.drop (k + 1) := List.drop_eq_getElem_cons h
theorem allD_at {l : Txt} (h : allD l = true) {k : Nat} (hk : k < l.length) : isD l[k] = true := by
  unfold allD at h; rw [List.all_eq_true] at h; exact h _ (List.getElem_mem hk)
theorem allD_drop {l : Txt} (h : allD l = true) (k : Nat) : allD (l.drop k) = true := by
  unfold allD at h ⊢; rw [List.all_eq_true] at h ⊢; exact fun c hc => h c (List.mem_of_mem_drop hc)
theorem allD_take {l : Txt} (h : allD l = true) (k : Nat) : allD (l.take k) = true := by
  unfold allD at h ⊢; rw [List.all_eq_true] at h ⊢; exact fun c hc => h c (List.mem_of_mem_take hc)
/-- The number of the digits from place k on. -/
theorem nat_drop {l : Txt} {k : Nat} (h : k < l.length) : nat (l.drop k) = dv l[k] * 10 ^ (l.length - (k + 1)) + nat (l.drop (k + 1)) := by
  rw [drop_at h, nat_cons, List.length_drop]
theorem set_drop {l : Txt} {k : Nat} (c : UInt8) : (l.set k c).drop (k + 1) = l.drop (k + 1) := by
  rw [List.drop_set]; simp
theorem nat_set_drop {l : Txt} {k : Nat} (h : k < l.length) (c : UInt8) : nat ((l.set k c).drop k) = dv c * 10 ^ (l.length - (k + 1)) + nat (l.drop (k + 1)) := by
  have hk : k < (l.set k c).length := by simpa using h
  rw [nat_drop hk, set_drop]; simp
theorem allD_set_drop {l : Txt} {k : Nat} (h : k < l.length) {c : UInt8} (hc : isD c = true) (hd : allD (l.drop (k + 1)) = true) : allD ((l.set k c).drop k) = true := by
  have hk : k < (l.set k c).length := by simpa using h
  rw [drop_at hk, set_drop]
  simp only [List.getElem_set_self]
  exact (allD_cons _ _).2 ⟨hc, hd⟩

/-! ### sums and differences in columns -/
/-- What holds of a sum from place i on: the digits written, and the carry. -/
def SumAt (a b o : Txt) (i c : Nat) : Prop := allD (o.drop i) = true ∧ nat (o.drop i) + c * 10 ^ (o.length - i) = nat (a.drop i) + nat (b.drop i)
theorem sum_step {a b o : Txt} {i c N : Nat} (ha : a.length = N) (hb : b.length = N) (ho : o.length = N) (hi : i < N) (hN : SumAt a b o (i + 1) c)
    (x y : Nat) (hx : dv (a[i]'(by omega)) = x) (hy : dv (b[i]'(by omega)) = y) :
    SumAt a b (o.set i (ch ((x + y + c) % 10))) i ((x + y + c) / 10) := by
  obtain ⟨h1, h2⟩ := hN
  refine ⟨allD_set_drop (by omega) (isD_ch (by omega)) h1, ?_⟩
  rw [nat_set_drop (by omega), List.length_set, nat_drop (l := a) (k := i) (by omega), nat_drop (l := b) (k := i) (by omega), hx, hy, dv_ch (by omega)]
  rw [ho] at h2 ⊢
  rw [ha, hb]
  have e : N - i = (N - (i + 1)) + 1 := by omega
  rw [e, Nat.pow_succ]
  generalize 10 ^ (N - (i + 1)) = T at *
  have : (x + y + c) % 10 * T + (x + y + c) / 10 * (T * 10) = (x + y + c) * T := by
    have := Nat.mod_add_div (x + y + c) 10
    calc (x + y + c) % 10 * T + (x + y + c) / 10 * (T * 10) = ((x + y + c) % 10 + 10 * ((x + y + c) / 10)) * T := by
          rw [Nat.add_mul, Nat.mul_comm T 10, ← Nat.mul_assoc, Nat.mul_comm ((x + y + c) / 10) 10]
      _ = _ := by rw [this]
  rw [Nat.add_mul, Nat.add_mul] at this
  omega
theorem sum_start (a b o : Txt) (N : Nat) (ha : a.length = N) (hb : b.length = N) (ho : o.length = N) : SumAt a b o N 0 := by
  unfold SumAt
  rw [List.drop_eq_nil_of_le (by omega), List.drop_eq_nil_of_le (by omega), List.drop_eq_nil_of_le (by omega)]
  simp [nat, allD]
theorem sum_end {a b o : Txt} {c N : Nat} (ho : o.length = N) (h : SumAt a b o 0 c) (hlt : nat a + nat b < 10 ^ N) : allD o = true ∧ nat o = nat a + nat b := by
  obtain ⟨h1, h2⟩ := h
  simp only [List.drop_zero, Nat.sub_zero] at h1 h2
  refine ⟨h1, ?_⟩
  rw [ho] at h2
  rcases Nat.eq_zero_or_pos c with e | e
  · rw [e] at h2; omega
  · have : 1 * 10 ^ N ≤ c * 10 ^ N := Nat.mul_le_mul_right _ e
    omega

def DifAt (a b o : Txt) (i c : Nat) : Prop := allD (o.drop i) = true ∧ nat (o.drop i) + nat (b.drop i) = nat (a.drop i) + c * 10 ^ (o.length - i)
theorem dif_step {a b o : Txt} {i c N : Nat} (ha : a.length = N) (hb : b.length = N) (ho : o.length = N) (hi : i < N) (hN : DifAt a b o (i + 1) c)
    (x y z k : Nat) (hx : dv (a[i]'(by omega)) = x) (hy : dv (b[i]'(by omega)) = y) (hz : z < 10) (h : z + y + c = x + 10 * k) :
    DifAt a b (o.set i (ch z)) i k := by
  obtain ⟨h1, h2⟩ := hN
  refine ⟨allD_set_drop (by omega) (isD_ch (by omega)) h1, ?_⟩
  rw [nat_set_drop (by omega), List.length_set, nat_drop (l := a) (k := i) (by omega), nat_drop (l := b) (k := i) (by omega), hx, hy, dv_ch (by omega)]
  rw [ho] at h2 ⊢
  rw [ha, hb]
  have e : N - i = (N - (i + 1)) + 1 := by omega
  rw [e, Nat.pow_succ]
  generalize 10 ^ (N - (i + 1)) = T at *
  have h3 : (z + y + c) * T = (x + 10 * k) * T := by rw [h]
  rw [Nat.add_mul, Nat.add_mul, Nat.add_mul] at h3
  have : k * (T * 10) = 10 * k * T := by rw [Nat.mul_comm T 10, ← Nat.mul_assoc, Nat.mul_comm k 10]
  omega
theorem dif_start (a b o : Txt) (N : Nat) (ha : a.length = N) (hb : b.length = N) (ho : o.length = N) : DifAt a b o N 0 := by
  unfold DifAt
  rw [List.drop_eq_nil_of_le (by omega), List.drop_eq_nil_of_le (by omega), List.drop_eq_nil_of_le (by omega)]
  simp [nat, allD]
theorem dif_end {a b o : Txt} {c N : Nat} (ho : o.length = N) (h : DifAt a b o 0 c) (hle : nat b ≤ nat a) : allD o = true ∧ nat o = nat a - nat b := by
  obtain ⟨h1, h2⟩ := h
  simp only [List.drop_zero, Nat.sub_zero] at h1 h2
  refine ⟨h1, ?_⟩
  rw [ho] at h2
  have := nat_lt o h1
  rw [ho] at this
  rcases Nat.eq_zero_or_pos c with e | e
  · rw [e] at h2; omega
  · have : 1 * 10 ^ N ≤ c * 10 ^ N := Nat.mul_le_mul_right _ e
    omega

/-! ### products in columns -/
/-- The number that columns spell, the first one the highest. -/
def colsum (l : List Int) : Int := l.foldl (fun a c => 10 * a + c) 0
theorem foldl_col (l : List Int) : ∀ a, l.foldl (fun a c => 10 * a + c) a = a * 10 ^ l.length + colsum l := by
  unfold colsum
  induction l with
  | nil => intro a; simp
  | cons c t ih =>
    intro a
    simp only [List.foldl_cons, List.length_cons]
    rw [ih, ih (10 * 0 + c)]
    rw [Int.pow_succ, Int.add_mul, Int.add_mul]
    simp only [Int.mul_zero, Int.zero_mul, Int.zero_add]
    rw [Int.mul_comm 10 a, Int.mul_assoc, Int.mul_comm 10 (10 ^ t.length)]
    omega
theorem colsum_cons (c : Int) (t : List Int) : colsum (c :: t) = c * 10 ^ t.length + colsum t := by
  unfold colsum; rw [List.foldl_cons, foldl_col]; simp [colsum]
theorem colsum_zeros (k : Nat) : colsum (List.replicate k 0) = 0 := by
  induction k with
  | zero => rfl
  | succ k ih => rw [List.replicate_succ, colsum_cons, ih]; simp
theorem colsum_set : ∀ (l : List Int) (j : Nat) (h : j < l.length) (x : Int), colsum (l.set j (l[j] + x)) = colsum l + x * 10 ^ (l.length - 1 - j)
  | [], j, h, x => by simp at h
  | c :: t, 0, h, x => by
    simp only [List.set_cons_zero, List.getElem_cons_zero, List.length_cons, Nat.add_sub_cancel, Nat.sub_zero]
    rw [colsum_cons, colsum_cons, Int.add_mul]; omega
  | c :: t, j + 1, h, x => by
    have h' : j < t.length := by simpa using h
    simp only [List.set_cons_succ, List.getElem_cons_succ, List.length_cons]
    rw [colsum_cons, colsum_cons, colsum_set t j h' x, List.length_set]
    rw [show t.length + 1 - 1 - (j + 1) = t.length - 1 - j by omega]; omega
theorem colsum_drop {l : List Int} {k : Nat} (h : k < l.length) : colsum (l.drop k) = l[k] * 10 ^ (l.length - (k + 1)) + colsum (l.drop (k + 1)) := by
  rw [List.drop_eq_getElem_cons h, colsum_cons, List.length_drop]
/-- What holds of the columns after i whole rows and k places of the next one. -/
def ColAt (a b : Txt) (l : List Int) (i k : Nat) : Prop :=
  colsum l = (nat (a.take i) : Int) * 10 ^ (a.length - i) * nat b + (if h : i < a.length then (dv a[i] : Int) * 10 ^ (a.length - i - 1) * (nat (b.take k) * 10 ^ (b.length - k)) else 0)
theorem nat_take {l : Txt} {k : Nat} (h : k < l.length) : nat (l.take (k + 1)) = 10 * nat (l.take k) + dv l[k] := by
  rw [List.take_succ_eq_append_getElem h, nat_snoc]
theorem col_start (a b : Txt) (N : Nat) : ColAt a b (List.replicate N 0) 0 0 := by
  unfold ColAt; rw [colsum_zeros]
  simp [nat]
theorem col_step {a b : Txt} {l : List Int} {i k : Nat} (hl : l.length = a.length + b.length) (hi : i < a.length) (hk : k < b.length) (h : ColAt a b l i k) (hj : i + k + 1 < l.length) :
    ColAt a b (l.set (i + k + 1) (l[i + k + 1] + (dv a[i] : Int) * (dv b[k] : Int))) i (k + 1) := by
  unfold ColAt at h ⊢
  rw [colsum_set l _ hj, h, dif_pos hi, dif_pos hi, nat_take hk, hl]
  rw [show a.length + b.length - 1 - (i + k + 1) = (a.length - i - 1) + (b.length - (k + 1)) by omega]
  rw [show b.length - k = (b.length - (k + 1)) + 1 by omega]
  rw [Int.pow_succ, Int.pow_add]
  generalize (10 : Int) ^ (a.length - i - 1) = A
  generalize (10 : Int) ^ (b.length - (k + 1)) = B
  generalize (nat (List.take i a) : Int) * 10 ^ (a.length - i) * ↑(nat b) = C
  simp only [Int.natCast_add, Int.natCast_mul]
  generalize (nat (List.take k b) : Int) = D
  generalize ((dv a[i] : Nat) : Int) = E
  generalize ((dv b[k] : Nat) : Int) = F
  rw [Int.add_mul, Int.mul_add]
  have h1 : E * A * (D * (B * 10)) = E * A * ((10 : Nat) * D * B) := by
    congr 1
    rw [Int.mul_comm B 10, ← Int.mul_assoc, Int.mul_comm D 10]; rfl
  have h2 : E * F * (A * B) = E * A * (F * B) := by
    rw [Int.mul_assoc, Int.mul_assoc, Int.mul_left_comm F A B]
  rw [h1, h2]; omega
theorem col_row {a b : Txt} {l : List Int} {i : Nat} (hi : i < a.length) (h : ColAt a b l i b.length) : ColAt a b l (i + 1) 0 := by
  unfold ColAt at h ⊢
  rw [h, dif_pos hi, nat_take hi]
  have h0 : nat (b.take 0) = 0 := rfl
  have e : (if h : i + 1 < a.length then (dv a[i + 1] : Int) * 10 ^ (a.length - (i + 1) - 1) * (nat (List.take 0 b) * 10 ^ (b.length - 0)) else 0) = 0 := by
    split
    · rw [h0]; simp
    · rfl
  rw [e, List.take_length, Nat.sub_self]
  rw [show a.length - i = (a.length - (i + 1)) + 1 by omega, show a.length - (i + 1) + 1 - 1 = a.length - (i + 1) by omega]
  rw [Int.pow_succ]
  generalize (10 : Int) ^ (a.length - (i + 1)) = A
  simp only [Int.natCast_add, Int.natCast_mul, Int.pow_zero, Int.mul_one]
  generalize (nat (List.take i a) : Int) = D
  generalize ((dv a[i] : Nat) : Int) = E
  generalize (nat b : Int) = B
  rw [Int.add_mul, Int.add_mul]
  have : D * (A * 10) * B = (10 : Nat) * D * A * B := by
    congr 1
    rw [Int.mul_comm A 10, ← Int.mul_assoc, Int.mul_comm D 10]; rfl
  rw [this]; omega
theorem col_end {a b : Txt} {l : List Int} (h : ColAt a b l a.length 0) : colsum l = (nat a : Int) * nat b := by
  unfold ColAt at h
  rw [h, List.take_length]
  simp
/-- What holds of the carrying of columns from place i on. -/
def CarAt (l : List Int) (o : Txt) (i : Nat) (c : Int) : Prop := allD (o.drop i) = true ∧ (nat (o.drop i) : Int) + c * 10 ^ (o.length - i) = colsum (l.drop i)
theorem car_start (l : List Int) (o : Txt) (N : Nat) (hl : l.length = N) (ho : o.length = N) : CarAt l o N 0 := by
  unfold CarAt
  rw [List.drop_eq_nil_of_le (by omega), List.drop_eq_nil_of_le (by omega)]
  simp [nat, allD, colsum]
theorem car_step {l : List Int} {o : Txt} {i N : Nat} {c : Int} (hl : l.length = N) (ho : o.length = N) (hi : i < N) (h : CarAt l o (i + 1) c) (s : Int) (hs : s = c + l[i]'(by omega)) :
    CarAt l (o.set i (ch (s % 10).toNat)) i (s / 10) := by
  obtain ⟨h1, h2⟩ := h
  refine ⟨allD_set_drop (by omega) (isD_ch (by omega)) h1, ?_⟩
  rw [nat_set_drop (by omega), List.length_set, colsum_drop (by omega), dv_ch (by omega)]
  obtain ⟨x, hx⟩ : ∃ x, l[i]'(by omega) = x := ⟨_, rfl⟩
  rw [hx] at hs ⊢
  rw [ho] at h2 ⊢
  rw [hl, ← h2]
  rw [show N - i = (N - (i + 1)) + 1 by omega, Int.pow_succ, Int.natCast_add, Int.natCast_mul, Int.natCast_pow]
  rw [show (((s % 10).toNat : Nat) : Int) = s % 10 by omega, show ((10 : Nat) : Int) = 10 from rfl]
  generalize (10 : Int) ^ (N - (i + 1)) = T at *
  have : s / 10 * (T * 10) = (10 * (s / 10)) * T := by rw [Int.mul_comm T 10, ← Int.mul_assoc, Int.mul_comm (s / 10) 10]
  rw [this]
  have h3 : s % 10 * T + 10 * (s / 10) * T = s * T := by rw [← Int.add_mul, Int.emod_add_mul_ediv]
  have h4 : s * T = c * T + x * T := by rw [hs, Int.add_mul]
  omega
theorem car_end {l : List Int} {o : Txt} {N : Nat} {c : Int} {v : Nat} (ho : o.length = N) (h : CarAt l o 0 c) (hv : colsum l = v) (hlt : v < 10 ^ N) (hc : 0 ≤ c) : allD o = true ∧ nat o = v := by
  obtain ⟨h1, h2⟩ := h
  simp only [List.drop_zero, Nat.sub_zero] at h1 h2
  refine ⟨h1, ?_⟩
  rw [ho, hv] at h2
  by_cases e : 0 < c
  · have : 1 * (10 : Int) ^ N ≤ c * 10 ^ N := Int.mul_le_mul_of_nonneg_right (by omega) (Int.pow_nonneg (by omega))
    have h3 : ((v : Nat) : Int) < ((10 ^ N : Nat) : Int) := by omega
    rw [Int.natCast_pow, show ((10 : Nat) : Int) = 10 from rfl] at h3
    omega
  · have : c = 0 := by omega
    rw [this] at h2; omega
end Mt
/- PLAIN MATHEMATICS of the library's texts: what strconv.Atoi, strings.Trim and strings.Compare give for digits. -/
namespace Mt
open Go.Lib (decDigits itoa)

theorem nat_cons_le (c : UInt8) (r : Txt) : nat (c :: r) = dv c * 10 ^ r.length + nat r := nat_cons c r
theorem parse_digits : ∀ (l : Txt) (acc : Nat), allD l = true → acc < 18446744073709551616 →
    Go.Lib.parseUint10 acc l = if acc * 10 ^ l.length + nat l < 18446744073709551616 then .ok (acc * 10 ^ l.length + nat l) else .range
  | [], acc, _, h => by
    simp only [Go.Lib.parseUint10, List.length_nil, Nat.pow_zero, Nat.mul_one]
    rw [nat_nil, Nat.add_zero, if_pos h]
  | c :: r, acc, hd, h => by
    rw [allD_cons] at hd
    have hc := (isD_iff c).1 hd.1
    have hdv := dv_lt hd.1
    have hp : 1 ≤ 10 ^ r.length := Nat.one_le_pow _ _ (by omega)
    rw [Go.Lib.parseUint10, if_pos hc, nat_cons, List.length_cons, Nat.pow_succ]
    have e : acc * (10 ^ r.length * 10) + (dv c * 10 ^ r.length + nat r) = (acc * 10 + dv c) * 10 ^ r.length + nat r := by
      rw [Nat.add_mul, Nat.mul_comm (10 ^ r.length) 10, ← Nat.mul_assoc]; omega
    rw [e]
    have hge : (acc * 10 + dv c) * 1 ≤ (acc * 10 + dv c) * 10 ^ r.length := Nat.mul_le_mul_left _ hp
    by_cases h1 : 1844674407370955162 ≤ acc
    · rw [if_pos h1, if_neg (by omega)]
    · rw [if_neg h1]
      have ed : c.toNat - 48 = dv c := rfl
      rw [ed]
      by_cases h2 : 18446744073709551616 ≤ acc * 10 + dv c
      · rw [if_pos h2, if_neg (by omega)]
      · rw [if_neg h2, parse_digits r _ hd.2 (by omega)]
theorem parse_mag {l : Txt} (h : allD l = true) (h0 : l ≠ []) : Go.Lib.parseMag l = if nat l < 18446744073709551616 then .ok (nat l) else .range := by
  rw [Go.Lib.parseMag, if_neg h0, parse_digits l 0 h (by omega)]; simp
/-- strconv.Atoi of digits. -/
theorem atoi_digits {l : Txt} (h : allD l = true) (h0 : l ≠ []) (hn : nat l < 9223372036854775808) : Go.Lib.atoiAll l = .ok (nat l : Int) := by
  cases l with
  | nil => exact absurd rfl h0
  | cons c r =>
    have hc := (isD_iff c).1 ((allD_cons c r).1 h).1
    have n1 : ¬ (c.toNat = 43 ∨ c.toNat = 45) := by omega
    have n2 : ¬ c.toNat = 45 := by omega
    simp only [Go.Lib.atoiAll]
    rw [if_neg n1, parse_mag h h0, if_pos (by omega)]
    simp only []
    rw [if_neg (by omega), if_neg (by omega), if_neg n2]
/-- strconv.Atoi of a canonical integer that is an int. -/
theorem atoi_itoa (n : Int) (h0 : -9223372036854775808 ≤ n) (h1 : n ≤ 9223372036854775807) : Go.Lib.atoiAll (itoa n) = .ok n := by
  by_cases h : n < 0
  · rw [itoa_neg' h]
    simp only [Go.Lib.atoiAll]
    rw [if_pos (by decide), parse_mag (allD_dec _) (dec_ne_nil _), nat_dec, if_pos (by omega)]
    simp only []
    rw [if_neg (by simp), if_neg (by omega), if_pos (by decide)]
    congr 1; omega
  · rw [itoa_pos' (by omega), atoi_digits (allD_dec _) (dec_ne_nil _) (by rw [nat_dec]; omega), nat_dec]
    congr 1; omega
theorem atoi_range (n : Int) (h : ¬ (-9223372036854775808 ≤ n ∧ n ≤ 9223372036854775807)) : Go.Lib.atoiAll (itoa n) = .range := by
  by_cases hn : n < 0
  · rw [itoa_neg' hn]
    simp only [Go.Lib.atoiAll]
    rw [if_pos (by decide), parse_mag (allD_dec _) (dec_ne_nil _), nat_dec]
    by_cases hb : n.natAbs < 18446744073709551616
    · rw [if_pos hb]
      simp only []
      rw [if_neg (by simp), if_pos ⟨by decide, by omega⟩]
    · rw [if_neg hb]
  · rw [itoa_pos' (by omega)]
    have hd := allD_dec n.natAbs
    have h0 := dec_ne_nil n.natAbs
    have hv := nat_dec n.natAbs
    generalize decDigits n.natAbs = l at *
    cases l with
    | nil => exact absurd rfl h0
    | cons c r =>
      have hc := (isD_iff c).1 ((allD_cons c r).1 hd).1
      have n1 : ¬ (c.toNat = 43 ∨ c.toNat = 45) := by omega
      have n2 : ¬ c.toNat = 45 := by omega
      simp only [Go.Lib.atoiAll]
      rw [if_neg n1, parse_mag hd h0, hv]
      by_cases hb : n.natAbs < 18446744073709551616
      · rw [if_pos hb]
        simp only []
        rw [if_pos ⟨n2, by omega⟩]
      · rw [if_neg hb]

/-! ### strings.Trim at the digits -/
def digs : Txt := [48, 49, 50, 51, 52, 53, 54, 55, 56, 57]
theorem digs_fin : ∀ n : Fin 256, digs.contains (UInt8.ofNat n.val) = isD (UInt8.ofNat n.val) := by decide +kernel
theorem digs_isD (c : UInt8) : digs.contains c = isD c := by
  have := digs_fin ⟨c.toNat, c.toNat_lt⟩
  simpa using this
theorem mem_dropWhile {α : Type} {p : α → Bool} {c : α} : ∀ {l : List α}, c ∈ l → p c = false → c ∈ l.dropWhile p
  | [], h, _ => by simp at h
  | x :: t, h, hp => by
    rw [List.dropWhile_cons]
    cases hx : p x with
    | true =>
      rw [if_pos rfl]
      rcases List.mem_cons.1 h with e | e
      · subst e; rw [hp] at hx; cases hx
      · exact mem_dropWhile e hp
    | false => rw [if_neg (by simp)]; exact h
theorem dropWhile_all {α : Type} {p : α → Bool} : ∀ {l : List α}, l.all p = true → l.dropWhile p = []
  | [], _ => rfl
  | x :: t, h => by
    simp only [List.all_cons, Bool.and_eq_true] at h
    rw [List.dropWhile_cons, if_pos h.1, dropWhile_all h.2]
theorem trim_digits (l : Txt) : Go.Lib.trimS l digs = [] ↔ allD l = true := by
  constructor
  · intro h
    cases ha : allD l with
    | true => rfl
    | false =>
      exfalso
      unfold allD at ha
      rw [List.all_eq_false] at ha
      obtain ⟨c, hc, hd⟩ := ha
      have hp : digs.contains c = false := by rw [digs_isD]; simpa using hd
      have h1 : c ∈ Go.Lib.trimRightS l digs := by
        unfold Go.Lib.trimRightS
        rw [List.mem_reverse]
        exact mem_dropWhile (List.mem_reverse.2 hc) hp
      have h2 : c ∈ Go.Lib.trimS l digs := mem_dropWhile h1 hp
      rw [h] at h2
      simp at h2
  · intro h
    have hall : l.all (digs.contains ·) = true := by
      rw [List.all_eq_true]
      intro c hc
      unfold allD at h
      rw [List.all_eq_true] at h
      rw [digs_isD]; exact h c hc
    have h1 : Go.Lib.trimRightS l digs = [] := by
      unfold Go.Lib.trimRightS
      rw [dropWhile_all (by rw [List.all_reverse]; exact hall)]; rfl
    unfold Go.Lib.trimS
    rw [h1]; rfl
theorem trimPrefix_body (l : Txt) : Go.Lib.trimPrefix l [45] = body l := by
  unfold Go.Lib.trimPrefix Go.Lib.hasPrefix body neg
  cases l with
  | nil => rfl
  | cons c t =>
    by_cases h : c = 45
    · subst h; rfl
    · have : (45 : UInt8) ≠ c := fun e => h e.symm
      simp [h, this]

/-! ### strings.Compare of digits of one length -/
theorem compare_digits : ∀ (a b : Txt), allD a = true → allD b = true → a.length = b.length → Go.Lib.compareBytes a b = cmp (nat a) (nat b)
  | [], [], _, _, _ => by rw [cmp_eq]; rfl
  | [], _ :: _, _, _, h => by simp at h
  | _ :: _, [], _, _, h => by simp at h
  | c :: s, d :: t, ha, hb, hl => by
    rw [allD_cons] at ha hb
    simp only [List.length_cons, Nat.add_right_cancel_iff] at hl
    have h1 := nat_lt s ha.2
    have h2 := nat_lt t hb.2
    rw [hl] at h1
    have c1 := (isD_iff c).1 ha.1
    have d1 := (isD_iff d).1 hb.1
    rw [nat_cons, nat_cons, hl]
    have ih := compare_digits s t ha.2 hb.2 hl
    by_cases hlt : c.toNat < d.toNat
    · have : (dv c + 1) * 10 ^ t.length ≤ dv d * 10 ^ t.length := Nat.mul_le_mul_right _ (by unfold dv; omega)
      rw [Nat.add_mul] at this
      rw [cmp_lt (by omega), Go.Lib.compareBytes, if_pos (UInt8.lt_iff_toNat_lt.2 hlt)]
    · by_cases hgt : d.toNat < c.toNat
      · have : (dv d + 1) * 10 ^ t.length ≤ dv c * 10 ^ t.length := Nat.mul_le_mul_right _ (by unfold dv; omega)
        rw [Nat.add_mul] at this
        rw [cmp_gt (by omega), Go.Lib.compareBytes, if_neg (fun x => hlt (UInt8.lt_iff_toNat_lt.1 x)), if_pos (UInt8.lt_iff_toNat_lt.2 hgt)]
      · have e : c = d := UInt8.toNat.inj (by omega)
        subst e
        have : cmp ((dv c * 10 ^ t.length + nat s : Nat) : Int) ((dv c * 10 ^ t.length + nat t : Nat) : Int) = cmp (nat s) (nat t) := by
          unfold cmp
          by_cases x : (nat s : Int) < nat t
          · rw [if_pos x, if_pos (by omega)]
          · rw [if_neg x, if_neg (by omega)]
            by_cases y : (nat t : Int) < nat s
            · rw [if_pos y, if_pos (by omega)]
            · rw [if_neg y, if_neg (by omega)]
        rw [this, ← ih]
        simp [Go.Lib.compareBytes]
theorem compare_dec {m n : Nat} (h : (decDigits m).length = (decDigits n).length) : Go.Lib.compareBytes (decDigits m) (decDigits n) = cmp m n := by
  rw [compare_digits _ _ (allD_dec m) (allD_dec n) h, nat_dec, nat_dec]

/-- The first error of a list of texts. -/
def firstErr : List Txt → Int
  | [] => 0
  | a :: t => if chk a = 0 then firstErr t else chk a
theorem firstErr_two (a b : Txt) : firstErr [a, b] = both a b := by
  unfold both
  simp only [firstErr]
  by_cases h : chk a = 0
  · rw [if_pos h, if_pos h]; split
    · rename_i h2; exact h2.symm
    · rfl
  · rw [if_neg h, if_neg h]
/-- The sign of an integer. -/
def sgn (n : Int) : Int := cmp n 0
theorem sgn_neg {n : Int} (h : n < 0) : sgn n = -1 := cmp_lt h
theorem sgn_pos {n : Int} (h : 0 < n) : sgn n = 1 := cmp_gt h
theorem sgn_zero : sgn 0 = 0 := cmp_eq 0
end Mt
/- PLAIN MATHEMATICS of magnitudes in words of nine digits, the least one first. -/
namespace Mt

/-- How many words a magnitude has. -/
def wlen (m : Nat) : Nat := if h : m = 0 then 0 else wlen (m / 1000000000) + 1
termination_by m
decreasing_by omega
theorem wlen_zero : wlen 0 = 0 := by rw [wlen, dif_pos rfl]
theorem wlen_pos {m : Nat} (h : m ≠ 0) : wlen m = wlen (m / 1000000000) + 1 := by rw [wlen, dif_neg h]
theorem wlen_le : ∀ (k m : Nat), wlen m ≤ k ↔ m < 1000000000 ^ k
  | 0, m => by
    by_cases h : m = 0
    · subst h; rw [wlen_zero]; simp
    · rw [wlen_pos h]; simp; omega
  | k + 1, m => by
    by_cases h : m = 0
    · subst h; rw [wlen_zero]; simp [Nat.pow_pos]
    · rw [wlen_pos h, Nat.pow_succ, ← Nat.div_lt_iff_lt_mul (by omega : 0 < 1000000000), ← wlen_le k]; omega
theorem wlen_eq_zero {m : Nat} : wlen m = 0 ↔ m = 0 := by
  have := wlen_le 0 m
  simp at this
  omega
theorem lt_wlen (m : Nat) : m < 1000000000 ^ wlen m := (wlen_le _ m).1 (Nat.le_refl _)
theorem wlen_mono {m n : Nat} (h : m ≤ n) : wlen m ≤ wlen n := (wlen_le _ m).2 (by have := lt_wlen n; omega)
theorem wpow_le {m : Nat} (h : m ≠ 0) : 1000000000 ^ (wlen m - 1) ≤ m := by
  have h1 : wlen m ≠ 0 := fun e => h (wlen_eq_zero.1 e)
  rcases Nat.lt_or_ge m (1000000000 ^ (wlen m - 1)) with h2 | h2
  · have := (wlen_le _ _).2 h2; omega
  · exact h2

/-- The number that words spell. -/
def wval (ws : List Int) : Int := ws.foldr (fun d a => d + 1000000000 * a) 0
theorem wval_cons (d : Int) (t : List Int) : wval (d :: t) = d + 1000000000 * wval t := rfl
theorem wval_nil : wval [] = 0 := rfl
def okW (ws : List Int) : Prop := ∀ d ∈ ws, 0 ≤ d ∧ d < 1000000000
theorem okW_cons {d : Int} {t : List Int} : okW (d :: t) ↔ (0 ≤ d ∧ d < 1000000000) ∧ okW t := by unfold okW; simp
theorem okW_set {ws : List Int} (h : okW ws) (i : Nat) {d : Int} (h0 : 0 ≤ d) (h1 : d < 1000000000) : okW (ws.set i d) := by
  intro x hx
  rcases List.mem_or_eq_of_mem_set hx with h2 | h2
  · exact h x h2
  · subst h2; exact ⟨h0, h1⟩
theorem okW_at {ws : List Int} (h : okW ws) {i : Nat} (hi : i < ws.length) : 0 ≤ ws[i] ∧ ws[i] < 1000000000 := h _ (List.getElem_mem hi)
theorem wval_bounds : ∀ {ws : List Int}, okW ws → 0 ≤ wval ws ∧ wval ws < 1000000000 ^ ws.length
  | [], _ => by simp [wval_nil]
  | d :: t, h => by
    rw [okW_cons] at h
    obtain ⟨a, b⟩ := wval_bounds h.2
    rw [wval_cons, List.length_cons, Int.pow_succ]
    omega
theorem wval_set : ∀ (ws : List Int) (i : Nat) (h : i < ws.length) (x : Int), wval (ws.set i x) = wval ws + (x - ws[i]) * 1000000000 ^ i
  | [], i, h, x => by simp at h
  | d :: t, 0, h, x => by simp only [List.set_cons_zero, wval_cons, List.getElem_cons_zero, Int.pow_zero]; omega
  | d :: t, i + 1, h, x => by
    have h' : i < t.length := by simpa using h
    simp only [List.set_cons_succ, wval_cons, List.getElem_cons_succ]
    rw [wval_set t i h' x, Int.pow_succ, Int.mul_add]
    have : 1000000000 * ((x - t[i]) * 1000000000 ^ i) = (x - t[i]) * (1000000000 ^ i * 1000000000) := by
      rw [Int.mul_left_comm, Int.mul_comm 1000000000 (1000000000 ^ i)]
    omega
theorem wval_zeros (k : Nat) : wval (List.replicate k 0) = 0 := by
  induction k with
  | zero => rfl
  | succ k ih => rw [List.replicate_succ, wval_cons, ih]; rfl
theorem wval_append (a b : List Int) : wval (a ++ b) = wval a + 1000000000 ^ a.length * wval b := by
  induction a with
  | nil => simp [wval_nil]
  | cons d t ih =>
    rw [List.cons_append, wval_cons, wval_cons, ih, List.length_cons, Int.pow_succ, Int.mul_add]
    have : 1000000000 * (1000000000 ^ t.length * wval b) = 1000000000 ^ t.length * 1000000000 * wval b := by
      rw [Int.mul_comm (1000000000 ^ t.length) 1000000000, Int.mul_assoc]
    omega
/-- The words of a magnitude: there are 232. -/
def wdsN : Nat → Nat → List Int
  | 0, _ => []
  | k + 1, m => ((m % 1000000000 : Nat) : Int) :: wdsN k (m / 1000000000)
@[irreducible] def wds (m : Nat) : List Int := wdsN 232 m
theorem wds_def (m : Nat) : wds m = wdsN 232 m := by unfold wds; rfl
theorem wdsN_length : ∀ (k m : Nat), (wdsN k m).length = k
  | 0, _ => rfl
  | k + 1, m => by simp [wdsN, wdsN_length k]
theorem wds_length (m : Nat) : (wds m).length = 232 := by rw [wds_def, wdsN_length]
theorem wdsN_ok : ∀ (k m : Nat), okW (wdsN k m)
  | 0, _ => by intro d hd; simp [wdsN] at hd
  | k + 1, m => by
    rw [wdsN, okW_cons]
    exact ⟨by omega, wdsN_ok k _⟩
theorem wds_ok (m : Nat) : okW (wds m) := by rw [wds_def]; exact wdsN_ok _ _
theorem wdsN_val : ∀ (k m : Nat), m < 1000000000 ^ k → wval (wdsN k m) = m
  | 0, m, h => by simp at h; subst h; rfl
  | k + 1, m, h => by
    rw [Nat.pow_succ, ← Nat.div_lt_iff_lt_mul (by omega : 0 < 1000000000)] at h
    rw [wdsN, wval_cons, wdsN_val k _ h]; omega
/-- The first magnitude that has no room. -/
@[irreducible] def wroom : Nat := 232
def wmax : Nat := 1000000000 ^ wroom
theorem wroom_eq : wroom = 232 := by unfold wroom; rfl
theorem wmax_le {m : Nat} : m < wmax ↔ wlen m ≤ 232 := by
  unfold wmax; rw [← wlen_le, wroom_eq]
theorem wds_val {m : Nat} (h : m < wmax) : wval (wds m) = m := by
  rw [wds_def]; exact wdsN_val _ _ ((wlen_le _ _).1 (wmax_le.1 h))
theorem words_unique : ∀ (ws : List Int), okW ws → ws = wdsN ws.length (wval ws).toNat
  | [], _ => rfl
  | d :: t, h => by
    rw [okW_cons] at h
    obtain ⟨a, b⟩ := wval_bounds h.2
    rw [List.length_cons, wdsN, wval_cons]
    have e1 : (d + 1000000000 * wval t).toNat % 1000000000 = d.toNat := by omega
    have e2 : (d + 1000000000 * wval t).toNat / 1000000000 = (wval t).toNat := by omega
    rw [e1, e2, ← words_unique t h.2]
    congr 1; omega
/-- Words that spell a magnitude are its words. -/
theorem words_are {ws : List Int} (hl : ws.length = 232) (h : okW ws) : ∃ m : Nat, wval ws = m ∧ m < wmax ∧ ws = wds m := by
  obtain ⟨a, b⟩ := wval_bounds h
  refine ⟨(wval ws).toNat, by omega, ?_, ?_⟩
  · rw [wmax_le, wlen_le]
    rw [hl] at b
    have : ((wval ws).toNat : Int) < ((1000000000 ^ 232 : Nat) : Int) := by
      rw [Int.natCast_pow]; omega
    omega
  · have := words_unique ws h
    rw [hl] at this
    rw [wds_def]; exact this
/-- Beyond place n there are no words but 0. -/
def zeroFrom (ws : List Int) (n : Nat) : Prop := ∀ j (h : j < ws.length), n ≤ j → ws[j] = 0
theorem zeroFrom_drop : ∀ {ws : List Int} {n : Nat}, zeroFrom ws n → ws.drop n = List.replicate (ws.length - n) 0 := by
  intro ws n h
  apply List.ext_getElem
  · simp
  · intro i h1 h2
    simp only [List.getElem_drop, List.getElem_replicate]
    exact h _ _ (by omega)
theorem zeroFrom_val {ws : List Int} {n : Nat} (h : zeroFrom ws n) : wval ws = wval (ws.take n) := by
  have := wval_append (ws.take n) (ws.drop n)
  rw [List.take_append_drop] at this
  rw [this, zeroFrom_drop h, wval_zeros]; simp
theorem zeroFrom_mono {ws : List Int} {n k : Nat} (h : zeroFrom ws n) (hk : n ≤ k) : zeroFrom ws k := fun j hj hn => h j hj (by omega)
theorem zeroFrom_set {ws : List Int} {n : Nat} (h : zeroFrom ws n) {i : Nat} (hi : i < n) (x : Int) : zeroFrom (ws.set i x) n := by
  intro j hj hn
  rw [List.getElem_set_ne (by omega)]
  exact h j (by simpa using hj) hn
theorem zeroFrom_pred {ws : List Int} {n : Nat} (h : zeroFrom ws (n + 1)) (hn : n < ws.length) (h0 : ws[n] = 0) : zeroFrom ws n := by
  intro j hj hnj
  by_cases e : j = n
  · subst e; exact h0
  · exact h j hj (by omega)
theorem wval_take_succ {ws : List Int} {n : Nat} (hn : n < ws.length) : wval (ws.take (n + 1)) = wval (ws.take n) + 1000000000 ^ n * ws[n] := by
  rw [List.take_succ_eq_append_getElem hn, wval_append, List.length_take, Nat.min_eq_left (by omega)]
  simp [wval_cons, wval_nil]
theorem okW_take {ws : List Int} (h : okW ws) (n : Nat) : okW (ws.take n) := fun d hd => h d (List.mem_of_mem_take hd)
theorem okW_drop {ws : List Int} (h : okW ws) (n : Nat) : okW (ws.drop n) := fun d hd => h d (List.mem_of_mem_drop hd)
/-- The last word that is not 0 says how many words there are. -/
theorem wlen_of {ws : List Int} {n m : Nat} (h : okW ws) (hz : zeroFrom ws n) (hn : n ≤ ws.length) (hm : wval ws = m) (hl : ∀ k (hk : k < ws.length), n = k + 1 → ws[k] ≠ 0) : wlen m = n := by
  have h1 := (wval_bounds (okW_take h n))
  rw [← zeroFrom_val hz, hm, List.length_take, Nat.min_eq_left hn] at h1
  have hle : wlen m ≤ n := by
    rw [wlen_le]
    have h2 := h1.2
    have : ((m : Nat) : Int) < ((1000000000 ^ n : Nat) : Int) := by rw [Int.natCast_pow]; exact h2
    omega
  rcases Nat.lt_or_ge (wlen m) n with hlt | hge
  · exfalso
    obtain ⟨k, rfl⟩ : ∃ k, n = k + 1 := ⟨n - 1, by omega⟩
    have hk : k < ws.length := by omega
    have hne := hl k hk rfl
    have hpos := (okW_at h hk).1
    have h2 : wlen m ≤ k := by omega
    rw [wlen_le] at h2
    have h3 := wval_take_succ hk
    rw [← zeroFrom_val hz, hm] at h3
    have h4 := (wval_bounds (okW_take h k)).1
    have h5 : (1000000000 : Int) ^ k * 1 ≤ 1000000000 ^ k * ws[k] := Int.mul_le_mul_of_nonneg_left (by omega) (Int.pow_nonneg (by omega))
    have h6 : ((m : Nat) : Int) < ((1000000000 ^ k : Nat) : Int) := by omega
    rw [Int.natCast_pow] at h6
    have : ((1000000000 : Nat) : Int) = 1000000000 := rfl
    rw [this] at h6
    omega
  · omega
theorem wds_zero {m : Nat} (h : m < wmax) : zeroFrom (wds m) (wlen m) := by
  intro j hj hn
  have hl := wds_length m
  have ho := wds_ok m
  have hlt := lt_wlen m
  rcases Int.lt_trichotomy ((wds m)[j]) 0 with h1 | h1 | h1
  · have := (okW_at ho hj).1; omega
  · exact h1
  · exfalso
    have h2 := wval_take_succ hj
    have h3 := wval_append ((wds m).take (j + 1)) ((wds m).drop (j + 1))
    rw [List.take_append_drop, wds_val h, h2] at h3
    have h4 := (wval_bounds (okW_take ho j)).1
    have h5 := (wval_bounds (okW_drop ho (j + 1))).1
    have h6 : (0 : Int) ≤ 1000000000 ^ ((wds m).take (j + 1)).length * wval ((wds m).drop (j + 1)) := Int.mul_nonneg (Int.pow_nonneg (by omega)) h5
    have h7 : (1000000000 : Int) ^ j * 1 ≤ 1000000000 ^ j * (wds m)[j] := Int.mul_le_mul_of_nonneg_left (by omega) (Int.pow_nonneg (by omega))
    have h8 : (1000000000 : Nat) ^ wlen m ≤ 1000000000 ^ j := Nat.pow_le_pow_right (by omega) hn
    have h9 : ((m : Nat) : Int) < ((1000000000 ^ j : Nat) : Int) := by omega
    rw [Int.natCast_pow, show ((1000000000 : Nat) : Int) = 1000000000 from rfl] at h9
    omega
end Mt
namespace Mt
theorem getD_in {l : List Int} {i : Nat} (h : i < l.length) : l.getD i 0 = l[i] := by simp [List.getD, h]
theorem getD_out {l : List Int} {i : Nat} (h : l.length ≤ i) : l.getD i 0 = 0 := by simp [List.getD, h]
/-- The words of Y up to place i, and the word at place i. -/
def wpre (Y i : Nat) : Int := wval ((wds Y).take i)
def wat (Y i : Nat) : Int := (wds Y).getD i 0
theorem wat_bd (Y i : Nat) : 0 ≤ wat Y i ∧ wat Y i < 1000000000 := by
  unfold wat
  by_cases h : i < (wds Y).length
  · rw [getD_in h]; exact okW_at (wds_ok Y) h
  · rw [getD_out (by omega)]; omega
theorem wat_get {Y i : Nat} (h : i < (wds Y).length) : (wds Y)[i] = wat Y i := by unfold wat; rw [getD_in h]
theorem wpre_zero (Y : Nat) : wpre Y 0 = 0 := by unfold wpre; rw [List.take_zero]; rfl
theorem wpre_succ (Y i : Nat) : wpre Y (i + 1) = wpre Y i + 1000000000 ^ i * wat Y i := by
  by_cases h : i < (wds Y).length
  · unfold wpre; rw [wval_take_succ h, wat_get h]
  · unfold wpre wat
    rw [List.take_of_length_le (by omega), List.take_of_length_le (by omega), getD_out (by omega)]; simp
theorem wpre_all {Y i : Nat} (hY : Y < wmax) (h : wlen Y ≤ i) : wpre Y i = Y := by
  have := zeroFrom_val (zeroFrom_mono (wds_zero hY) h)
  unfold wpre
  rw [← this, wds_val hY]
theorem wat_zero {Y i : Nat} (hY : Y < wmax) (h : wlen Y ≤ i) : wat Y i = 0 := by
  unfold wat
  by_cases hi : i < (wds Y).length
  · rw [getD_in hi]; exact wds_zero hY i hi h
  · rw [getD_out (by omega)]
/-- What holds of the words of x after i places of a multiple of y have been added. -/
def AddAt (X Y : Nat) (f : Int) (up : Nat) (ws : List Int) (i : Nat) (rest : Int) : Prop := wval ws + rest * 1000000000 ^ (i + up) = X + f * 1000000000 ^ up * wpre Y i
theorem add_start (X Y : Nat) (f : Int) (up : Nat) (hX : X < wmax) : AddAt X Y f up (wds X) 0 0 := by
  unfold AddAt; rw [wpre_zero, wds_val hX]; simp
theorem add_step {X Y : Nat} {f : Int} {up : Nat} {ws : List Int} {i : Nat} {rest : Int} (h : AddAt X Y f up ws i rest) (hi : i + up < ws.length) (v q d : Int) (hv : ws[i + up] = v)
    (hs : v + rest + f * wat Y i = q * 1000000000 + d) : AddAt X Y f up (ws.set (i + up) d) (i + 1) q := by
  unfold AddAt at h ⊢
  rw [wval_set ws _ hi, hv, wpre_succ, show i + 1 + up = (i + up) + 1 by omega, Int.pow_succ]
  have e1 : f * 1000000000 ^ up * (wpre Y i + 1000000000 ^ i * wat Y i) = f * 1000000000 ^ up * wpre Y i + f * wat Y i * 1000000000 ^ (i + up) := by
    rw [Int.mul_add, Int.pow_add]
    congr 1
    rw [Int.mul_assoc, Int.mul_assoc, Int.mul_left_comm (1000000000 ^ up) (1000000000 ^ i)]
    congr 1
    rw [Int.mul_comm (1000000000 ^ up), ← Int.mul_assoc, Int.mul_comm (1000000000 ^ i), Int.mul_assoc]
  rw [e1, ← Int.add_assoc, ← h]
  generalize (1000000000 : Int) ^ (i + up) = P at *
  have e2 : q * (P * 1000000000) = q * 1000000000 * P := by rw [Int.mul_comm P, ← Int.mul_assoc]
  rw [e2, Int.sub_mul]
  have e3 : (v + rest + f * wat Y i) * P = (q * 1000000000 + d) * P := by rw [hs]
  rw [Int.add_mul, Int.add_mul, Int.add_mul] at e3
  omega
theorem add_end {X Y : Nat} {f : Int} {up T : Nat} {ws : List Int} {i : Nat} {rest : Int} (h : AddAt X Y f up ws i rest) (hY : Y < wmax) (hi : wlen Y ≤ i) (hT : (X : Int) + f * 1000000000 ^ up * Y = T) :
    wval ws + rest * 1000000000 ^ (i + up) = T := by
  unfold AddAt at h
  rw [h, wpre_all hY hi, hT]
theorem add_room {ws : List Int} {rest : Int} {T j : Nat} (h : wval ws + rest * 1000000000 ^ j = T) (hl : ws.length = 232) (hok : okW ws) (hT : T < wmax) (hr : rest ≠ 0) : j < 232 := by
  rcases Nat.lt_or_ge j 232 with h1 | h1
  · exact h1
  · exfalso
    obtain ⟨a, b⟩ := wval_bounds hok
    rw [hl] at b
    have hT2 : (T : Int) < 1000000000 ^ 232 := by
      rw [wmax_le, wlen_le] at hT
      have : ((T : Nat) : Int) < ((1000000000 ^ 232 : Nat) : Int) := by omega
      rw [Int.natCast_pow] at this
      exact this
    obtain ⟨k, rfl⟩ : ∃ k, j = 232 + k := ⟨j - 232, by omega⟩
    have hk : (1 : Int) ≤ 1000000000 ^ k := by
      have : 0 < (1000000000 : Int) ^ k := Int.pow_pos (by omega)
      omega
    rw [Int.pow_add] at h
    generalize (1000000000 : Int) ^ 232 = P at *
    generalize (1000000000 : Int) ^ k = K at *
    have hP : 0 < P := by omega
    have hPK : P * 1 ≤ P * K := Int.mul_le_mul_of_nonneg_left hk (by omega)
    rcases Int.lt_or_lt_of_ne hr with h2 | h2
    · have : (-1) * (P * K) ≥ rest * (P * K) := Int.mul_le_mul_of_nonneg_right (by omega) (by omega)
      omega
    · have : 1 * (P * K) ≤ rest * (P * K) := Int.mul_le_mul_of_nonneg_right (by omega) (by omega)
      omega
/-- Go's division by the base, and the remainder that is not negative. -/
theorem base_div (S : Int) (h0 : -3000000000000000000 ≤ S) (h1 : S ≤ 3000000000000000000) : ∃ q : Int, S.tdiv 1000000000 = q ∧ -3000000000 ≤ q ∧ q ≤ 3000000000 ∧
    ((0 ≤ S - q * 1000000000 ∧ S - q * 1000000000 < 1000000000) ∨ (-1000000000 < S - q * 1000000000 ∧ S - q * 1000000000 < 0)) := by
  by_cases h : 0 ≤ S
  · refine ⟨S / 1000000000, Int.tdiv_eq_ediv_of_nonneg h, by omega, by omega, .inl (by omega)⟩
  · refine ⟨-((-S) / 1000000000), ?_, by omega, by omega, by omega⟩
    have e : S = -(-S) := by omega
    have := Int.neg_tdiv (-S) 1000000000
    rw [Int.neg_neg] at this
    rw [this, Int.tdiv_eq_ediv_of_nonneg (by omega)]
end Mt
namespace Mt
/-- The words of X from place k on. -/
def wsuf (X k : Nat) : Int := wval ((wds X).drop k)
theorem wsplit (X k : Nat) (hX : X < wmax) (hk : k ≤ 232) : (X : Int) = wpre X k + 1000000000 ^ k * wsuf X k := by
  have := wval_append ((wds X).take k) ((wds X).drop k)
  rw [List.take_append_drop, wds_val hX, List.length_take, wds_length, Nat.min_eq_left hk] at this
  exact this
theorem wpre_bd (X k : Nat) (hk : k ≤ 232) : 0 ≤ wpre X k ∧ wpre X k < 1000000000 ^ k := by
  have := wval_bounds (okW_take (wds_ok X) k)
  rw [List.length_take, wds_length, Nat.min_eq_left hk] at this
  exact this
theorem wsuf_bd (X k : Nat) : 0 ≤ wsuf X k := (wval_bounds (okW_drop (wds_ok X) k)).1
theorem wsuf_succ {X k : Nat} (hk : k < 232) : wsuf X k = wat X k + 1000000000 * wsuf X (k + 1) := by
  have h : k < (wds X).length := by rw [wds_length]; exact hk
  unfold wsuf
  rw [List.drop_eq_getElem_cons h, wval_cons, wat_get h]
theorem wsuf_zero {X k : Nat} (hX : X < wmax) (h : wlen X ≤ k) : wsuf X k = 0 := by
  unfold wsuf
  rw [zeroFrom_drop (zeroFrom_mono (wds_zero hX) h), wval_zeros]
/-- The highest place at which two magnitudes differ decides. -/
theorem high_lt {X Y k : Nat} (hX : X < wmax) (hY : Y < wmax) (hk : k < 232) (hs : wsuf X (k + 1) = wsuf Y (k + 1)) (hlt : wat X k < wat Y k) : X < Y := by
  have e1 := wsplit X k hX (by omega)
  have e2 := wsplit Y k hY (by omega)
  rw [wsuf_succ hk] at e1 e2
  rw [hs] at e1
  have b1 := wpre_bd X k (by omega)
  have b2 := wpre_bd Y k (by omega)
  generalize wsuf Y (k + 1) = Z at *
  generalize (1000000000 : Int) ^ k = P at *
  have : P * (wat X k + 1000000000 * Z) + P * 1 ≤ P * (wat Y k + 1000000000 * Z) := by
    rw [← Int.mul_add]; exact Int.mul_le_mul_of_nonneg_left (by omega) (by omega)
  omega
theorem high_eq {X Y k : Nat} (hk : k < 232) (hs : wsuf X (k + 1) = wsuf Y (k + 1)) (he : wat X k = wat Y k) : wsuf X k = wsuf Y k := by
  rw [wsuf_succ hk, wsuf_succ hk, hs, he]
theorem all_eq {X Y : Nat} (hX : X < wmax) (hY : Y < wmax) (hs : wsuf X 0 = wsuf Y 0) : X = Y := by
  have e1 := wsplit X 0 hX (by omega)
  have e2 := wsplit Y 0 hY (by omega)
  rw [wpre_zero, hs] at e1
  rw [wpre_zero] at e2
  omega
theorem wlen_lt {X Y : Nat} (h : wlen X < wlen Y) : X < Y := by
  rcases Nat.lt_or_ge X Y with h1 | h1
  · exact h1
  · have := wlen_mono h1; omega
end Mt
/- PLAIN MATHEMATICS: the text of a magnitude in words. -/
namespace Mt
open Go.Lib (decDigits itoa)

/-- Nine digits. -/
def pad9 (d : Nat) : Txt := List.replicate (9 - (decDigits d).length) 48 ++ decDigits d
theorem ten9 : (10 : Nat) ^ 9 = 1000000000 := by decide
theorem dec_nine {d : Nat} (h : d < 1000000000) : (decDigits d).length ≤ 9 := (dec_len_iff d (by omega)).2 (by rw [ten9]; exact h)
theorem zeros_drop (n : Nat) : List.drop n [48, 48, 48, 48, 48, 48, 48, 48, 48] = List.replicate (9 - n) (48 : UInt8) := by
  have : ([48, 48, 48, 48, 48, 48, 48, 48, 48] : List UInt8) = List.replicate 9 48 := rfl
  rw [this, List.drop_replicate]
theorem pad9_length {d : Nat} (h : d < 1000000000) : (pad9 d).length = 9 := by
  have := dec_nine h
  unfold pad9; simp; omega
theorem dec_pad {m d : Nat} (hm : m ≠ 0) (hd : d < 1000000000) : decDigits (m * 1000000000 + d) = decDigits m ++ pad9 d := by
  refine can_inj (can_dec _) ?_ ?_
  · rw [can_iff]
    refine ⟨?_, (allD_append _ _).2 ⟨allD_dec m, allD_pad _ (allD_dec d)⟩, fun h => ?_⟩
    · intro e
      exact dec_ne_nil m (List.append_eq_nil_iff.1 e).1
    · exfalso
      rw [List.head?_append] at h
      cases hx : (decDigits m).head? with
      | none => rw [List.head?_eq_none_iff] at hx; exact dec_ne_nil m hx
      | some y =>
        rw [hx] at h
        simp at h
        subst h
        exact hm (head_dec m hx)
  · rw [nat_dec, nat_append, nat_dec, pad9_length hd]
    have : nat (pad9 d) = d := by unfold pad9; rw [nat_pad, nat_dec]
    rw [this]
theorem wsuf_all {X : Nat} (hX : X < wmax) : wsuf X 0 = X := by
  have := wsplit X 0 hX (by omega)
  rw [wpre_zero] at this
  simpa using this.symm
theorem wtop_ne {X : Nat} (hX : X < wmax) (h0 : X ≠ 0) : wsuf X (wlen X - 1) = wat X (wlen X - 1) ∧ wat X (wlen X - 1) ≠ 0 := by
  have hl := wmax_le.1 hX
  have hp : wlen X ≠ 0 := fun e => h0 (wlen_eq_zero.1 e)
  have h1 := wsuf_succ (X := X) (k := wlen X - 1) (by omega)
  rw [wsuf_zero (k := wlen X - 1 + 1) hX (by omega)] at h1
  refine ⟨by omega, fun e => ?_⟩
  have h2 := wsplit X (wlen X - 1) hX (by omega)
  have h3 := wpre_bd X (wlen X - 1) (by omega)
  have h4 := wpow_le h0
  rw [h1, e] at h2
  have h5 : ((1000000000 ^ (wlen X - 1) : Nat) : Int) ≤ (X : Int) := by omega
  rw [Int.natCast_pow, show ((1000000000 : Nat) : Int) = 1000000000 from rfl] at h5
  simp at h2
  omega
theorem wsuf_pos {X : Nat} (hX : X < wmax) (h0 : X ≠ 0) {k : Nat} (hk : k ≤ wlen X - 1) : wsuf X k ≠ 0 := by
  have hl := wmax_le.1 hX
  obtain ⟨j, hj⟩ : ∃ j, wlen X - 1 = k + j := ⟨wlen X - 1 - k, by omega⟩
  have key : ∀ (j k : Nat), k + j < 232 → wsuf X (k + j) ≠ 0 → wsuf X k ≠ 0 := by
    intro j
    induction j with
    | zero => intro k _ h; exact h
    | succ j ih =>
      intro k hk h
      have h1 := ih (k + 1) (by omega) (by rw [show k + 1 + j = k + (j + 1) by omega]; exact h)
      have h2 := wsuf_succ (X := X) (k := k) (by omega)
      have h3 := (wat_bd X k).1
      have h4 := wsuf_bd X (k + 1)
      omega
  have hp : wlen X ≠ 0 := fun e => h0 (wlen_eq_zero.1 e)
  refine key j k (by omega) ?_
  rw [← hj, (wtop_ne hX h0).1]
  exact (wtop_ne hX h0).2
/-- The digits of a magnitude, from place k on. -/
def tdig (X k : Nat) : Txt := decDigits (wsuf X k).toNat
theorem tdig_step {X k : Nat} (hX : X < wmax) (h0 : X ≠ 0) (hk : k + 1 ≤ wlen X - 1) : tdig X k = tdig X (k + 1) ++ pad9 (wat X k).toNat := by
  have hl := wmax_le.1 hX
  have h2 := wsuf_succ (X := X) (k := k) (by omega)
  have h3 := wat_bd X k
  have h4 := wsuf_bd X (k + 1)
  have h5 := wsuf_pos hX h0 hk
  unfold tdig
  rw [← dec_pad (by omega) (by omega)]
  congr 1; omega
theorem tdig_all {X : Nat} (hX : X < wmax) : tdig X 0 = decDigits X := by unfold tdig; rw [wsuf_all hX]; simp
theorem tdig_top {X : Nat} (hX : X < wmax) (h0 : X ≠ 0) : tdig X (wlen X - 1) = decDigits (wat X (wlen X - 1)).toNat := by unfold tdig; rw [(wtop_ne hX h0).1]
theorem dlen_words (X k : Nat) (hk : 1 ≤ k) (h : X < 1000000000 ^ k) : (decDigits X).length ≤ 9 * k := (dec_len_iff X (by omega)).2 (by rw [Nat.pow_mul, ten9]; exact h)
theorem tdig_len {X k : Nat} (hX : X < wmax) (hk : k ≤ 232) : (tdig X k).length ≤ 2088 := by
  have h1 := wsplit X k hX hk
  have h2 := wpre_bd X k hk
  have h3 := wsuf_bd X k
  have h4 : (1 : Int) ≤ 1000000000 ^ k := by
    have : 0 < (1000000000 : Int) ^ k := Int.pow_pos (by omega)
    omega
  have h5 : 1 * wsuf X k ≤ 1000000000 ^ k * wsuf X k := Int.mul_le_mul_of_nonneg_right h4 h3
  have h6 : (wsuf X k).toNat ≤ X := by omega
  unfold tdig
  refine Nat.le_trans (dlen_mono h6) ?_
  have h7 := (wlen_le 232 X).1 (wmax_le.1 hX)
  have h8 := dlen_words X 232 (by omega) h7
  omega
end Mt
