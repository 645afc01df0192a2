/- PLAIN MATHEMATICS of the reference's paper sums, products and quotients on digits. -/
import Derived.Test.YtjljappilpkelaaGreatDoorMath
import GoSem.Op.String
namespace Mt
open Go.Lib (decDigits itoa)

/-! ### comparing digits -/
theorem less_len : ∀ (a b : Txt), allD a = true → allD b = true → a.length = b.length → Go.Op.bytesLess a b = decide (nat a < nat b)
  | [], [], _, _, _ => by simp [Go.Op.bytesLess, nat]
  | [], _ :: _, _, _, h => by simp at h
  | _ :: _, [], _, _, h => by simp at h
  | c :: s, d :: t, ha, hb, hl => by
    rw [allD_cons] at ha hb
    simp only [List.length_cons, Nat.add_right_cancel_iff] at hl
    have h1 := nat_lt s ha.2
    have h2 := nat_lt t hb.2
    rw [hl] at h1
    rw [Go.Op.bytesLess, less_len s t ha.2 hb.2 hl, nat_cons, nat_cons, hl]
    have c1 := (isD_iff c).1 ha.1
    have d1 := (isD_iff d).1 hb.1
    rw [Bool.eq_iff_iff]
    simp only [Bool.or_eq_true, Bool.and_eq_true, decide_eq_true_eq, beq_iff_eq, UInt8.lt_iff_toNat_lt]
    constructor
    · rintro (h | ⟨h, h3⟩)
      · have : (dv c + 1) * 10 ^ t.length ≤ dv d * 10 ^ t.length := Nat.mul_le_mul_right _ (by unfold dv; omega)
        rw [Nat.add_mul] at this
        omega
      · subst h; omega
    · intro h
      by_cases e : c = d
      · subst e; exact .inr ⟨rfl, by omega⟩
      · left
        rcases Nat.lt_or_ge c.toNat d.toNat with h4 | h4
        · exact h4
        · exfalso
          have hne : c.toNat ≠ d.toNat := fun x => e (UInt8.toNat.inj x)
          have : (dv d + 1) * 10 ^ t.length ≤ dv c * 10 ^ t.length := Nat.mul_le_mul_right _ (by unfold dv; omega)
          rw [Nat.add_mul] at this
          omega
theorem dec_less {m n : Nat} (h : (decDigits m).length = (decDigits n).length) : Go.Op.bytesLess (decDigits m) (decDigits n) = decide (m < n) := by
  rw [less_len _ _ (allD_dec m) (allD_dec n) h, nat_dec, nat_dec]
theorem dec_len_pos (n : Nat) : 1 ≤ (decDigits n).length := List.length_pos_iff.2 (dec_ne_nil n)
theorem lt_pow_len (n : Nat) : n < 10 ^ (decDigits n).length := (dec_len_iff n (dec_len_pos n)).1 (Nat.le_refl _)
theorem dec_len_lt {m n : Nat} (h : (decDigits m).length < (decDigits n).length) : m < n := by
  have h1 := lt_pow_len m
  rcases Nat.lt_or_ge n (10 ^ (decDigits m).length) with h2 | h2
  · have := (dec_len_iff n (dec_len_pos m)).2 h2; omega
  · omega
theorem dec_len_mono {m n : Nat} (h : m ≤ n) : (decDigits m).length ≤ (decDigits n).length := by
  have h1 := lt_pow_len n
  exact (dec_len_iff m (dec_len_pos n)).2 (by omega)
theorem dec_len_bound {n k : Nat} (hk : 1 ≤ k) (h : n < 10 ^ k) : (decDigits n).length ≤ k := (dec_len_iff n hk).2 h

/-! ### digits without zeros in front -/
theorem bare_spec : ∀ (l : Txt), l ≠ [] → allD l = true → bare l = decDigits (nat l)
  | [], h, _ => absurd rfl h
  | [c], _, h => by
    have hd : isD c = true := ((allD_cons c []).1 h).1
    rw [bare, nat_one, decDigits_small (dv_lt hd), ofNat_dv hd]
  | c :: d :: t, _, h => by
    rw [allD_cons] at h
    rw [bare]
    by_cases hc : c = 48
    · subst hc
      rw [if_pos rfl, bare_spec (d :: t) (by simp) h.2, nat_cons 48 (d :: t)]
      have : dv 48 = 0 := by decide
      rw [this]; simp
    · rw [if_neg hc]
      refine (dec_nat ?_).symm
      rw [can_iff]
      refine ⟨by simp, (allD_cons _ _).2 h, fun e => absurd ?_ hc⟩
      simpa using e
theorem nat_zeros (k : Nat) : nat (List.replicate k 48) = 0 := by
  induction k with
  | zero => rfl
  | succ k ih => rw [List.replicate_succ, nat_cons, ih]; have : dv 48 = 0 := by decide
                 rw [this]; simp
theorem allD_zeros (k : Nat) : allD (List.replicate k 48) = true := by
  unfold allD; rw [List.all_eq_true]; intro c hc; rw [List.eq_of_mem_replicate hc]; decide
theorem nat_pad (k : Nat) (l : Txt) : nat (List.replicate k 48 ++ l) = nat l := by rw [nat_append, nat_zeros]; simp
theorem allD_pad (k : Nat) {l : Txt} (h : allD l = true) : allD (List.replicate k 48 ++ l) = true := (allD_append _ _).2 ⟨allD_zeros k, h⟩

/-- A digit. -/
def ch (d : Nat) : UInt8 := UInt8.ofNat (48 + d)
theorem ch_toNat {d : Nat} (h : d < 10) : (ch d).toNat = 48 + d := by unfold ch; simp [UInt8.toNat_ofNat']; omega
theorem dv_ch {d : Nat} (h : d < 10) : dv (ch d) = d := dv_ofNat h
theorem isD_ch {d : Nat} (h : d < 10) : isD (ch d) = true := isD_ofNat h

theorem drop_at {l : Txt} {k : Nat} (h : k < l.length) : l.drop k = l[k] :: l.drop (k + 1) := List.drop_eq_getElem_cons h
theorem allD_at {l : Txt} (h : allD l = true) {k : Nat} (hk : k < l.length) : isD l[k] = true := by
  unfold allD at h; rw [List.all_eq_true] at h; exact h _ (List.getElem_mem hk)
theorem allD_drop {l : Txt} (h : allD l = true) (k : Nat) : allD (l.drop k) = true := by
  unfold allD at h ⊢; rw [List.all_eq_true] at h ⊢; exact fun c hc => h c (List.mem_of_mem_drop hc)
theorem allD_take {l : Txt} (h : allD l = true) (k : Nat) : allD (l.take k) = true := by
  unfold allD at h ⊢; rw [List.all_eq_true] at h ⊢; exact fun c hc => h c (List.mem_of_mem_take hc)
/-- The number of the digits from place k on. -/
theorem nat_drop {l : Txt} {k : Nat} (h : k < l.length) : nat (l.drop k) = dv l[k] * 10 ^ (l.length - (k + 1)) + nat (l.drop (k + 1)) := by
  rw [drop_at h, nat_cons, List.length_drop]
theorem set_drop {l : Txt} {k : Nat} (c : UInt8) : (l.set k c).drop (k + 1) = l.drop (k + 1) := by
  rw [List.drop_set]; simp
theorem nat_set_drop {l : Txt} {k : Nat} (h : k < l.length) (c : UInt8) : nat ((l.set k c).drop k) = dv c * 10 ^ (l.length - (k + 1)) + nat (l.drop (k + 1)) := by
  have hk : k < (l.set k c).length := by simpa using h
  rw [nat_drop hk, set_drop]; simp
theorem allD_set_drop {l : Txt} {k : Nat} (h : k < l.length) {c : UInt8} (hc : isD c = true) (hd : allD (l.drop (k + 1)) = true) : allD ((l.set k c).drop k) = true := by
  have hk : k < (l.set k c).length := by simpa using h
  rw [drop_at hk, set_drop]
  simp only [List.getElem_set_self]
  exact (allD_cons _ _).2 ⟨hc, hd⟩

/-! ### sums and differences in columns -/
/-- What holds of a sum from place i on: the digits written, and the carry. -/
def SumAt (a b o : Txt) (i c : Nat) : Prop := allD (o.drop i) = true ∧ nat (o.drop i) + c * 10 ^ (o.length - i) = nat (a.drop i) + nat (b.drop i)
theorem sum_step {a b o : Txt} {i c N : Nat} (ha : a.length = N) (hb : b.length = N) (ho : o.length = N) (hi : i < N) (hN : SumAt a b o (i + 1) c)
    (x y : Nat) (hx : dv (a[i]'(by omega)) = x) (hy : dv (b[i]'(by omega)) = y) :
    SumAt a b (o.set i (ch ((x + y + c) % 10))) i ((x + y + c) / 10) := by
  obtain ⟨h1, h2⟩ := hN
  refine ⟨allD_set_drop (by omega) (isD_ch (by omega)) h1, ?_⟩
  rw [nat_set_drop (by omega), List.length_set, nat_drop (l := a) (k := i) (by omega), nat_drop (l := b) (k := i) (by omega), hx, hy, dv_ch (by omega)]
  rw [ho] at h2 ⊢
  rw [ha, hb]
  have e : N - i = (N - (i + 1)) + 1 := by omega
  rw [e, Nat.pow_succ]
  generalize 10 ^ (N - (i + 1)) = T at *
  have : (x + y + c) % 10 * T + (x + y + c) / 10 * (T * 10) = (x + y + c) * T := by
    have := Nat.mod_add_div (x + y + c) 10
    calc (x + y + c) % 10 * T + (x + y + c) / 10 * (T * 10) = ((x + y + c) % 10 + 10 * ((x + y + c) / 10)) * T := by
          rw [Nat.add_mul, Nat.mul_comm T 10, ← Nat.mul_assoc, Nat.mul_comm ((x + y + c) / 10) 10]
      _ = _ := by rw [this]
  rw [Nat.add_mul, Nat.add_mul] at this
  omega
theorem sum_start (a b o : Txt) (N : Nat) (ha : a.length = N) (hb : b.length = N) (ho : o.length = N) : SumAt a b o N 0 := by
  unfold SumAt
  rw [List.drop_eq_nil_of_le (by omega), List.drop_eq_nil_of_le (by omega), List.drop_eq_nil_of_le (by omega)]
  simp [nat, allD]
theorem sum_end {a b o : Txt} {c N : Nat} (ho : o.length = N) (h : SumAt a b o 0 c) (hlt : nat a + nat b < 10 ^ N) : allD o = true ∧ nat o = nat a + nat b := by
  obtain ⟨h1, h2⟩ := h
  simp only [List.drop_zero, Nat.sub_zero] at h1 h2
  refine ⟨h1, ?_⟩
  rw [ho] at h2
  rcases Nat.eq_zero_or_pos c with e | e
  · rw [e] at h2; omega
  · have : 1 * 10 ^ N ≤ c * 10 ^ N := Nat.mul_le_mul_right _ e
    omega

def DifAt (a b o : Txt) (i c : Nat) : Prop := allD (o.drop i) = true ∧ nat (o.drop i) + nat (b.drop i) = nat (a.drop i) + c * 10 ^ (o.length - i)
theorem dif_step {a b o : Txt} {i c N : Nat} (ha : a.length = N) (hb : b.length = N) (ho : o.length = N) (hi : i < N) (hN : DifAt a b o (i + 1) c)
    (x y z k : Nat) (hx : dv (a[i]'(by omega)) = x) (hy : dv (b[i]'(by omega)) = y) (hz : z < 10) (h : z + y + c = x + 10 * k) :
    DifAt a b (o.set i (ch z)) i k := by
  obtain ⟨h1, h2⟩ := hN
  refine ⟨allD_set_drop (by omega) (isD_ch (by omega)) h1, ?_⟩
  rw [nat_set_drop (by omega), List.length_set, nat_drop (l := a) (k := i) (by omega), nat_drop (l := b) (k := i) (by omega), hx, hy, dv_ch (by omega)]
  rw [ho] at h2 ⊢
  rw [ha, hb]
  have e : N - i = (N - (i + 1)) + 1 := by omega
  rw [e, Nat.pow_succ]
  generalize 10 ^ (N - (i + 1)) = T at *
  have h3 : (z + y + c) * T = (x + 10 * k) * T := by rw [h]
  rw [Nat.add_mul, Nat.add_mul, Nat.add_mul] at h3
  have : k * (T * 10) = 10 * k * T := by rw [Nat.mul_comm T 10, ← Nat.mul_assoc, Nat.mul_comm k 10]
  omega
theorem dif_start (a b o : Txt) (N : Nat) (ha : a.length = N) (hb : b.length = N) (ho : o.length = N) : DifAt a b o N 0 := by
  unfold DifAt
  rw [List.drop_eq_nil_of_le (by omega), List.drop_eq_nil_of_le (by omega), List.drop_eq_nil_of_le (by omega)]
  simp [nat, allD]
theorem dif_end {a b o : Txt} {c N : Nat} (ho : o.length = N) (h : DifAt a b o 0 c) (hle : nat b ≤ nat a) : allD o = true ∧ nat o = nat a - nat b := by
  obtain ⟨h1, h2⟩ := h
  simp only [List.drop_zero, Nat.sub_zero] at h1 h2
  refine ⟨h1, ?_⟩
  rw [ho] at h2
  have := nat_lt o h1
  rw [ho] at this
  rcases Nat.eq_zero_or_pos c with e | e
  · rw [e] at h2; omega
  · have : 1 * 10 ^ N ≤ c * 10 ^ N := Nat.mul_le_mul_right _ e
    omega

/-! ### products in columns -/
/-- The number that columns spell, the first one the highest. -/
def colsum (l : List Int) : Int := l.foldl (fun a c => 10 * a + c) 0
theorem foldl_col (l : List Int) : ∀ a, l.foldl (fun a c => 10 * a + c) a = a * 10 ^ l.length + colsum l := by
  unfold colsum
  induction l with
  | nil => intro a; simp
  | cons c t ih =>
    intro a
    simp only [List.foldl_cons, List.length_cons]
    rw [ih, ih (10 * 0 + c)]
    rw [Int.pow_succ, Int.add_mul, Int.add_mul]
    simp only [Int.mul_zero, Int.zero_mul, Int.zero_add]
    rw [Int.mul_comm 10 a, Int.mul_assoc, Int.mul_comm 10 (10 ^ t.length)]
    omega
theorem colsum_cons (c : Int) (t : List Int) : colsum (c :: t) = c * 10 ^ t.length + colsum t := by
  unfold colsum; rw [List.foldl_cons, foldl_col]; simp [colsum]
theorem colsum_zeros (k : Nat) : colsum (List.replicate k 0) = 0 := by
  induction k with
  | zero => rfl
  | succ k ih => rw [List.replicate_succ, colsum_cons, ih]; simp
theorem colsum_set : ∀ (l : List Int) (j : Nat) (h : j < l.length) (x : Int), colsum (l.set j (l[j] + x)) = colsum l + x * 10 ^ (l.length - 1 - j)
  | [], j, h, x => by simp at h
  | c :: t, 0, h, x => by
    simp only [List.set_cons_zero, List.getElem_cons_zero, List.length_cons, Nat.add_sub_cancel, Nat.sub_zero]
    rw [colsum_cons, colsum_cons, Int.add_mul]; omega
  | c :: t, j + 1, h, x => by
    have h' : j < t.length := by simpa using h
    simp only [List.set_cons_succ, List.getElem_cons_succ, List.length_cons]
    rw [colsum_cons, colsum_cons, colsum_set t j h' x, List.length_set]
    rw [show t.length + 1 - 1 - (j + 1) = t.length - 1 - j by omega]; omega
theorem colsum_drop {l : List Int} {k : Nat} (h : k < l.length) : colsum (l.drop k) = l[k] * 10 ^ (l.length - (k + 1)) + colsum (l.drop (k + 1)) := by
  rw [List.drop_eq_getElem_cons h, colsum_cons, List.length_drop]
/-- What holds of the columns after i whole rows and k places of the next one. -/
def ColAt (a b : Txt) (l : List Int) (i k : Nat) : Prop :=
  colsum l = (nat (a.take i) : Int) * 10 ^ (a.length - i) * nat b + (if h : i < a.length then (dv a[i] : Int) * 10 ^ (a.length - i - 1) * (nat (b.take k) * 10 ^ (b.length - k)) else 0)
theorem nat_take {l : Txt} {k : Nat} (h : k < l.length) : nat (l.take (k + 1)) = 10 * nat (l.take k) + dv l[k] := by
  rw [List.take_succ_eq_append_getElem h, nat_snoc]
theorem col_start (a b : Txt) (N : Nat) : ColAt a b (List.replicate N 0) 0 0 := by
  unfold ColAt; rw [colsum_zeros]
  simp [nat]
theorem col_step {a b : Txt} {l : List Int} {i k : Nat} (hl : l.length = a.length + b.length) (hi : i < a.length) (hk : k < b.length) (h : ColAt a b l i k) (hj : i + k + 1 < l.length) :
    ColAt a b (l.set (i + k + 1) (l[i + k + 1] + (dv a[i] : Int) * (dv b[k] : Int))) i (k + 1) := by
  unfold ColAt at h ⊢
  rw [colsum_set l _ hj, h, dif_pos hi, dif_pos hi, nat_take hk, hl]
  rw [show a.length + b.length - 1 - (i + k + 1) = (a.length - i - 1) + (b.length - (k + 1)) by omega]
  rw [show b.length - k = (b.length - (k + 1)) + 1 by omega]
  rw [Int.pow_succ, Int.pow_add]
  generalize (10 : Int) ^ (a.length - i - 1) = A
  generalize (10 : Int) ^ (b.length - (k + 1)) = B
  generalize (nat (List.take i a) : Int) * 10 ^ (a.length - i) * ↑(nat b) = C
  simp only [Int.natCast_add, Int.natCast_mul]
  generalize (nat (List.take k b) : Int) = D
  generalize ((dv a[i] : Nat) : Int) = E
  generalize ((dv b[k] : Nat) : Int) = F
  rw [Int.add_mul, Int.mul_add]
  have h1 : E * A * (D * (B * 10)) = E * A * ((10 : Nat) * D * B) := by
    congr 1
    rw [Int.mul_comm B 10, ← Int.mul_assoc, Int.mul_comm D 10]; rfl
  have h2 : E * F * (A * B) = E * A * (F * B) := by
    rw [Int.mul_assoc, Int.mul_assoc, Int.mul_left_comm F A B]
  rw [h1, h2]; omega
theorem col_row {a b : Txt} {l : List Int} {i : Nat} (hi : i < a.length) (h : ColAt a b l i b.length) : ColAt a b l (i + 1) 0 := by
  unfold ColAt at h ⊢
  rw [h, dif_pos hi, nat_take hi]
  have h0 : nat (b.take 0) = 0 := rfl
  have e : (if h : i + 1 < a.length then (dv a[i + 1] : Int) * 10 ^ (a.length - (i + 1) - 1) * (nat (List.take 0 b) * 10 ^ (b.length - 0)) else 0) = 0 := by
    split
    · rw [h0]; simp
    · rfl
  rw [e, List.take_length, Nat.sub_self]
  rw [show a.length - i = (a.length - (i + 1)) + 1 by omega, show a.length - (i + 1) + 1 - 1 = a.length - (i + 1) by omega]
  rw [Int.pow_succ]
  generalize (10 : Int) ^ (a.length - (i + 1)) = A
  simp only [Int.natCast_add, Int.natCast_mul, Int.pow_zero, Int.mul_one]
  generalize (nat (List.take i a) : Int) = D
  generalize ((dv a[i] : Nat) : Int) = E
  generalize (nat b : Int) = B
  rw [Int.add_mul, Int.add_mul]
  have : D * (A * 10) * B = (10 : Nat) * D * A * B := by
    congr 1
    rw [Int.mul_comm A 10, ← Int.mul_assoc, Int.mul_comm D 10]; rfl
  rw [this]; omega
theorem col_end {a b : Txt} {l : List Int} (h : ColAt a b l a.length 0) : colsum l = (nat a : Int) * nat b := by
  unfold ColAt at h
  rw [h, List.take_length]
  simp
/-- What holds of the carrying of columns from place i on. -/
def CarAt (l : List Int) (o : Txt) (i : Nat) (c : Int) : Prop := allD (o.drop i) = true ∧ (nat (o.drop i) : Int) + c * 10 ^ (o.length - i) = colsum (l.drop i)
theorem car_start (l : List Int) (o : Txt) (N : Nat) (hl : l.length = N) (ho : o.length = N) : CarAt l o N 0 := by
  unfold CarAt
  rw [List.drop_eq_nil_of_le (by omega), List.drop_eq_nil_of_le (by omega)]
  simp [nat, allD, colsum]
theorem car_step {l : List Int} {o : Txt} {i N : Nat} {c : Int} (hl : l.length = N) (ho : o.length = N) (hi : i < N) (h : CarAt l o (i + 1) c) (s : Int) (hs : s = c + l[i]'(by omega)) :
    CarAt l (o.set i (ch (s % 10).toNat)) i (s / 10) := by
  obtain ⟨h1, h2⟩ := h
  refine ⟨allD_set_drop (by omega) (isD_ch (by omega)) h1, ?_⟩
  rw [nat_set_drop (by omega), List.length_set, colsum_drop (by omega), dv_ch (by omega)]
  obtain ⟨x, hx⟩ : ∃ x, l[i]'(by omega) = x := ⟨_, rfl⟩
  rw [hx] at hs ⊢
  rw [ho] at h2 ⊢
  rw [hl, ← h2]
  rw [show N - i = (N - (i + 1)) + 1 by omega, Int.pow_succ, Int.natCast_add, Int.natCast_mul, Int.natCast_pow]
  rw [show (((s % 10).toNat : Nat) : Int) = s % 10 by omega, show ((10 : Nat) : Int) = 10 from rfl]
  generalize (10 : Int) ^ (N - (i + 1)) = T at *
  have : s / 10 * (T * 10) = (10 * (s / 10)) * T := by rw [Int.mul_comm T 10, ← Int.mul_assoc, Int.mul_comm (s / 10) 10]
  rw [this]
  have h3 : s % 10 * T + 10 * (s / 10) * T = s * T := by rw [← Int.add_mul, Int.emod_add_mul_ediv]
  have h4 : s * T = c * T + x * T := by rw [hs, Int.add_mul]
  omega
theorem car_end {l : List Int} {o : Txt} {N : Nat} {c : Int} {v : Nat} (ho : o.length = N) (h : CarAt l o 0 c) (hv : colsum l = v) (hlt : v < 10 ^ N) (hc : 0 ≤ c) : allD o = true ∧ nat o = v := by
  obtain ⟨h1, h2⟩ := h
  simp only [List.drop_zero, Nat.sub_zero] at h1 h2
  refine ⟨h1, ?_⟩
  rw [ho, hv] at h2
  by_cases e : 0 < c
  · have : 1 * (10 : Int) ^ N ≤ c * 10 ^ N := Int.mul_le_mul_of_nonneg_right (by omega) (Int.pow_nonneg (by omega))
    have h3 : ((v : Nat) : Int) < ((10 ^ N : Nat) : Int) := by omega
    rw [Int.natCast_pow, show ((10 : Nat) : Int) = 10 from rfl] at h3
    omega
  · have : c = 0 := by omega
    rw [this] at h2; omega
end Mt
