/- PLAIN MATHEMATICS of the library's texts: what strconv.Atoi, strings.Trim and strings.Compare give for digits. -/
import Derived.Test.YtjljappilpkelaaGreatDoorMathB
import Derived.Lib.AtoiAll
import Derived.Lib.SlTrimSet
import Derived.Lib.Bytealg
namespace Mt
open Go.Lib (decDigits itoa)

theorem nat_cons_le (c : UInt8) (r : Txt) : nat (c :: r) = dv c * 10 ^ r.length + nat r := nat_cons c r
theorem parse_digits : ∀ (l : Txt) (acc : Nat), allD l = true → acc < 18446744073709551616 →
    Go.Lib.parseUint10 acc l = if acc * 10 ^ l.length + nat l < 18446744073709551616 then .ok (acc * 10 ^ l.length + nat l) else .range
  | [], acc, _, h => by
    simp only [Go.Lib.parseUint10, List.length_nil, Nat.pow_zero, Nat.mul_one]
    rw [nat_nil, Nat.add_zero, if_pos h]
  | c :: r, acc, hd, h => by
    rw [allD_cons] at hd
    have hc := (isD_iff c).1 hd.1
    have hdv := dv_lt hd.1
    have hp : 1 ≤ 10 ^ r.length := Nat.one_le_pow _ _ (by omega)
    rw [Go.Lib.parseUint10, if_pos hc, nat_cons, List.length_cons, Nat.pow_succ]
    have e : acc * (10 ^ r.length * 10) + (dv c * 10 ^ r.length + nat r) = (acc * 10 + dv c) * 10 ^ r.length + nat r := by
      rw [Nat.add_mul, Nat.mul_comm (10 ^ r.length) 10, ← Nat.mul_assoc]; omega
    rw [e]
    have hge : (acc * 10 + dv c) * 1 ≤ (acc * 10 + dv c) * 10 ^ r.length := Nat.mul_le_mul_left _ hp
    by_cases h1 : 1844674407370955162 ≤ acc
    · rw [if_pos h1, if_neg (by omega)]
    · rw [if_neg h1]
      have ed : c.toNat - 48 = dv c := rfl
      rw [ed]
      by_cases h2 : 18446744073709551616 ≤ acc * 10 + dv c
      · rw [if_pos h2, if_neg (by omega)]
      · rw [if_neg h2, parse_digits r _ hd.2 (by omega)]
theorem parse_mag {l : Txt} (h : allD l = true) (h0 : l ≠ []) : Go.Lib.parseMag l = if nat l < 18446744073709551616 then .ok (nat l) else .range := by
  rw [Go.Lib.parseMag, if_neg h0, parse_digits l 0 h (by omega)]; simp
/-- strconv.Atoi of digits. -/
theorem atoi_digits {l : Txt} (h : allD l = true) (h0 : l ≠ []) (hn : nat l < 9223372036854775808) : Go.Lib.atoiAll l = .ok (nat l : Int) := by
  cases l with
  | nil => exact absurd rfl h0
  | cons c r =>
    have hc := (isD_iff c).1 ((allD_cons c r).1 h).1
    have n1 : ¬ (c.toNat = 43 ∨ c.toNat = 45) := by omega
    have n2 : ¬ c.toNat = 45 := by omega
    simp only [Go.Lib.atoiAll]
    rw [if_neg n1, parse_mag h h0, if_pos (by omega)]
    simp only []
    rw [if_neg (by omega), if_neg (by omega), if_neg n2]
/-- strconv.Atoi of a canonical integer that is an int. -/
theorem atoi_itoa (n : Int) (h0 : -9223372036854775808 ≤ n) (h1 : n ≤ 9223372036854775807) : Go.Lib.atoiAll (itoa n) = .ok n := by
  by_cases h : n < 0
  · rw [itoa_neg' h]
    simp only [Go.Lib.atoiAll]
    rw [if_pos (by decide), parse_mag (allD_dec _) (dec_ne_nil _), nat_dec, if_pos (by omega)]
    simp only []
    rw [if_neg (by simp), if_neg (by omega), if_pos (by decide)]
    congr 1; omega
  · rw [itoa_pos' (by omega), atoi_digits (allD_dec _) (dec_ne_nil _) (by rw [nat_dec]; omega), nat_dec]
    congr 1; omega
theorem atoi_range (n : Int) (h : ¬ (-9223372036854775808 ≤ n ∧ n ≤ 9223372036854775807)) : Go.Lib.atoiAll (itoa n) = .range := by
  by_cases hn : n < 0
  · rw [itoa_neg' hn]
    simp only [Go.Lib.atoiAll]
    rw [if_pos (by decide), parse_mag (allD_dec _) (dec_ne_nil _), nat_dec]
    by_cases hb : n.natAbs < 18446744073709551616
    · rw [if_pos hb]
      simp only []
      rw [if_neg (by simp), if_pos ⟨by decide, by omega⟩]
    · rw [if_neg hb]
  · rw [itoa_pos' (by omega)]
    have hd := allD_dec n.natAbs
    have h0 := dec_ne_nil n.natAbs
    have hv := nat_dec n.natAbs
    generalize decDigits n.natAbs = l at *
    cases l with
    | nil => exact absurd rfl h0
    | cons c r =>
      have hc := (isD_iff c).1 ((allD_cons c r).1 hd).1
      have n1 : ¬ (c.toNat = 43 ∨ c.toNat = 45) := by omega
      have n2 : ¬ c.toNat = 45 := by omega
      simp only [Go.Lib.atoiAll]
      rw [if_neg n1, parse_mag hd h0, hv]
      by_cases hb : n.natAbs < 18446744073709551616
      · rw [if_pos hb]
        simp only []
        rw [if_pos ⟨n2, by omega⟩]
      · rw [if_neg hb]

/-! ### strings.Trim at the digits -/
def digs : Txt := [48, 49, 50, 51, 52, 53, 54, 55, 56, 57]
theorem digs_fin : ∀ n : Fin 256, digs.contains (UInt8.ofNat n.val) = isD (UInt8.ofNat n.val) := by decide +kernel
theorem digs_isD (c : UInt8) : digs.contains c = isD c := by
  have := digs_fin ⟨c.toNat, c.toNat_lt⟩
  simpa using this
theorem mem_dropWhile {α : Type} {p : α → Bool} {c : α} : ∀ {l : List α}, c ∈ l → p c = false → c ∈ l.dropWhile p
  | [], h, _ => by simp at h
  | x :: t, h, hp => by
    rw [List.dropWhile_cons]
    cases hx : p x with
    | true =>
      rw [if_pos rfl]
      rcases List.mem_cons.1 h with e | e
      · subst e; rw [hp] at hx; cases hx
      · exact mem_dropWhile e hp
    | false => rw [if_neg (by simp)]; exact h
theorem dropWhile_all {α : Type} {p : α → Bool} : ∀ {l : List α}, l.all p = true → l.dropWhile p = []
  | [], _ => rfl
  | x :: t, h => by
    simp only [List.all_cons, Bool.and_eq_true] at h
    rw [List.dropWhile_cons, if_pos h.1, dropWhile_all h.2]
theorem trim_digits (l : Txt) : Go.Lib.trimS l digs = [] ↔ allD l = true := by
  constructor
  · intro h
    cases ha : allD l with
    | true => rfl
    | false =>
      exfalso
      unfold allD at ha
      rw [List.all_eq_false] at ha
      obtain ⟨c, hc, hd⟩ := ha
      have hp : digs.contains c = false := by rw [digs_isD]; simpa using hd
      have h1 : c ∈ Go.Lib.trimRightS l digs := by
        unfold Go.Lib.trimRightS
        rw [List.mem_reverse]
        exact mem_dropWhile (List.mem_reverse.2 hc) hp
      have h2 : c ∈ Go.Lib.trimS l digs := mem_dropWhile h1 hp
      rw [h] at h2
      simp at h2
  · intro h
    have hall : l.all (digs.contains ·) = true := by
      rw [List.all_eq_true]
      intro c hc
      unfold allD at h
      rw [List.all_eq_true] at h
      rw [digs_isD]; exact h c hc
    have h1 : Go.Lib.trimRightS l digs = [] := by
      unfold Go.Lib.trimRightS
      rw [dropWhile_all (by rw [List.all_reverse]; exact hall)]; rfl
    unfold Go.Lib.trimS
    rw [h1]; rfl
theorem trimPrefix_body (l : Txt) : Go.Lib.trimPrefix l [45] = body l := by
  unfold Go.Lib.trimPrefix Go.Lib.hasPrefix body neg
  cases l with
  | nil => rfl
  | cons c t =>
    by_cases h : c = 45
    · subst h; rfl
    · have : (45 : UInt8) ≠ c := fun e => h e.symm
      simp [h, this]

/-! ### strings.Compare of digits of one length -/
theorem compare_digits : ∀ (a b : Txt), allD a = true → allD b = true → a.length = b.length → Go.Lib.compareBytes a b = cmp (nat a) (nat b)
  | [], [], _, _, _ => by rw [cmp_eq]; rfl
  | [], _ :: _, _, _, h => by simp at h
  | _ :: _, [], _, _, h => by simp at h
  | c :: s, d :: t, ha, hb, hl => by
    rw [allD_cons] at ha hb
    simp only [List.length_cons, Nat.add_right_cancel_iff] at hl
    have h1 := nat_lt s ha.2
    have h2 := nat_lt t hb.2
    rw [hl] at h1
    have c1 := (isD_iff c).1 ha.1
    have d1 := (isD_iff d).1 hb.1
    rw [nat_cons, nat_cons, hl]
    have ih := compare_digits s t ha.2 hb.2 hl
    by_cases hlt : c.toNat < d.toNat
    · have : (dv c + 1) * 10 ^ t.length ≤ dv d * 10 ^ t.length := Nat.mul_le_mul_right _ (by unfold dv; omega)
      rw [Nat.add_mul] at this
      rw [cmp_lt (by omega), Go.Lib.compareBytes, if_pos (UInt8.lt_iff_toNat_lt.2 hlt)]
    · by_cases hgt : d.toNat < c.toNat
      · have : (dv d + 1) * 10 ^ t.length ≤ dv c * 10 ^ t.length := Nat.mul_le_mul_right _ (by unfold dv; omega)
        rw [Nat.add_mul] at this
        rw [cmp_gt (by omega), Go.Lib.compareBytes, if_neg (fun x => hlt (UInt8.lt_iff_toNat_lt.1 x)), if_pos (UInt8.lt_iff_toNat_lt.2 hgt)]
      · have e : c = d := UInt8.toNat.inj (by omega)
        subst e
        have : cmp ((dv c * 10 ^ t.length + nat s : Nat) : Int) ((dv c * 10 ^ t.length + nat t : Nat) : Int) = cmp (nat s) (nat t) := by
          unfold cmp
          by_cases x : (nat s : Int) < nat t
          · rw [if_pos x, if_pos (by omega)]
          · rw [if_neg x, if_neg (by omega)]
            by_cases y : (nat t : Int) < nat s
            · rw [if_pos y, if_pos (by omega)]
            · rw [if_neg y, if_neg (by omega)]
        rw [this, ← ih]
        simp [Go.Lib.compareBytes]
theorem compare_dec {m n : Nat} (h : (decDigits m).length = (decDigits n).length) : Go.Lib.compareBytes (decDigits m) (decDigits n) = cmp m n := by
  rw [compare_digits _ _ (allD_dec m) (allD_dec n) h, nat_dec, nat_dec]

/-- The first error of a list of texts. -/
def firstErr : List Txt → Int
  | [] => 0
  | a :: t => if chk a = 0 then firstErr t else chk a
theorem firstErr_two (a b : Txt) : firstErr [a, b] = both a b := by
  unfold both
  simp only [firstErr]
  by_cases h : chk a = 0
  · rw [if_pos h, if_pos h]; split
    · rename_i h2; exact h2.symm
    · rfl
  · rw [if_neg h, if_neg h]
/-- The sign of an integer. -/
def sgn (n : Int) : Int := cmp n 0
theorem sgn_neg {n : Int} (h : n < 0) : sgn n = -1 := cmp_lt h
theorem sgn_pos {n : Int} (h : 0 < n) : sgn n = 1 := cmp_gt h
theorem sgn_zero : sgn 0 = 0 := cmp_eq 0
end Mt
