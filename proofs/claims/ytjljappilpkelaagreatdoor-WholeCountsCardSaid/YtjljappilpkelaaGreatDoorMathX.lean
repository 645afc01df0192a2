/- PLAIN MATHEMATICS: the text of a magnitude in words. -/
import Derived.Test.YtjljappilpkelaaGreatDoorMathW
import Derived.Test.YtjljappilpkelaaGreatDoorMathB
namespace Mt
open Go.Lib (decDigits itoa)

/-- Nine digits. -/
def pad9 (d : Nat) : Txt := List.replicate (9 - (decDigits d).length) 48 ++ decDigits d
theorem ten9 : (10 : Nat) ^ 9 = 1000000000 := by decide
theorem dec_nine {d : Nat} (h : d < 1000000000) : (decDigits d).length ≤ 9 := (dec_len_iff d (by omega)).2 (by rw [ten9]; exact h)
theorem zeros_drop (n : Nat) : List.drop n [48, 48, 48, 48, 48, 48, 48, 48, 48] = List.replicate (9 - n) (48 : UInt8) := by
  have : ([48, 48, 48, 48, 48, 48, 48, 48, 48] : List UInt8) = List.replicate 9 48 := rfl
  rw [this, List.drop_replicate]
theorem pad9_length {d : Nat} (h : d < 1000000000) : (pad9 d).length = 9 := by
  have := dec_nine h
  unfold pad9; simp; omega
theorem dec_pad {m d : Nat} (hm : m ≠ 0) (hd : d < 1000000000) : decDigits (m * 1000000000 + d) = decDigits m ++ pad9 d := by
  refine can_inj (can_dec _) ?_ ?_
  · rw [can_iff]
    refine ⟨?_, (allD_append _ _).2 ⟨allD_dec m, allD_pad _ (allD_dec d)⟩, fun h => ?_⟩
    · intro e
      exact dec_ne_nil m (List.append_eq_nil_iff.1 e).1
    · exfalso
      rw [List.head?_append] at h
      cases hx : (decDigits m).head? with
      | none => rw [List.head?_eq_none_iff] at hx; exact dec_ne_nil m hx
      | some y =>
        rw [hx] at h
        simp at h
        subst h
        exact hm (head_dec m hx)
  · rw [nat_dec, nat_append, nat_dec, pad9_length hd]
    have : nat (pad9 d) = d := by unfold pad9; rw [nat_pad, nat_dec]
    rw [this]
theorem wsuf_all {X : Nat} (hX : X < wmax) : wsuf X 0 = X := by
  have := wsplit X 0 hX (by omega)
  rw [wpre_zero] at this
  simpa using this.symm
theorem wtop_ne {X : Nat} (hX : X < wmax) (h0 : X ≠ 0) : wsuf X (wlen X - 1) = wat X (wlen X - 1) ∧ wat X (wlen X - 1) ≠ 0 := by
  have hl := wmax_le.1 hX
  have hp : wlen X ≠ 0 := fun e => h0 (wlen_eq_zero.1 e)
  have h1 := wsuf_succ (X := X) (k := wlen X - 1) (by omega)
  rw [wsuf_zero (k := wlen X - 1 + 1) hX (by omega)] at h1
  refine ⟨by omega, fun e => ?_⟩
  have h2 := wsplit X (wlen X - 1) hX (by omega)
  have h3 := wpre_bd X (wlen X - 1) (by omega)
  have h4 := wpow_le h0
  rw [h1, e] at h2
  have h5 : ((1000000000 ^ (wlen X - 1) : Nat) : Int) ≤ (X : Int) := by omega
  rw [Int.natCast_pow, show ((1000000000 : Nat) : Int) = 1000000000 from rfl] at h5
  simp at h2
  omega
theorem wsuf_pos {X : Nat} (hX : X < wmax) (h0 : X ≠ 0) {k : Nat} (hk : k ≤ wlen X - 1) : wsuf X k ≠ 0 := by
  have hl := wmax_le.1 hX
  obtain ⟨j, hj⟩ : ∃ j, wlen X - 1 = k + j := ⟨wlen X - 1 - k, by omega⟩
  have key : ∀ (j k : Nat), k + j < 232 → wsuf X (k + j) ≠ 0 → wsuf X k ≠ 0 := by
    intro j
    induction j with
    | zero => intro k _ h; exact h
    | succ j ih =>
      intro k hk h
      have h1 := ih (k + 1) (by omega) (by rw [show k + 1 + j = k + (j + 1) by omega]; exact h)
      have h2 := wsuf_succ (X := X) (k := k) (by omega)
      have h3 := (wat_bd X k).1
      have h4 := wsuf_bd X (k + 1)
      omega
  have hp : wlen X ≠ 0 := fun e => h0 (wlen_eq_zero.1 e)
  refine key j k (by omega) ?_
  rw [← hj, (wtop_ne hX h0).1]
  exact (wtop_ne hX h0).2
/-- The digits of a magnitude, from place k on. -/
def tdig (X k : Nat) : Txt := decDigits (wsuf X k).toNat
theorem tdig_step {X k : Nat} (hX : X < wmax) (h0 : X ≠ 0) (hk : k + 1 ≤ wlen X - 1) : tdig X k = tdig X (k + 1) ++ pad9 (wat X k).toNat := by
  have hl := wmax_le.1 hX
  have h2 := wsuf_succ (X := X) (k := k) (by omega)
  have h3 := wat_bd X k
  have h4 := wsuf_bd X (k + 1)
  have h5 := wsuf_pos hX h0 hk
  unfold tdig
  rw [← dec_pad (by omega) (by omega)]
  congr 1; omega
theorem tdig_all {X : Nat} (hX : X < wmax) : tdig X 0 = decDigits X := by unfold tdig; rw [wsuf_all hX]; simp
theorem tdig_top {X : Nat} (hX : X < wmax) (h0 : X ≠ 0) : tdig X (wlen X - 1) = decDigits (wat X (wlen X - 1)).toNat := by unfold tdig; rw [(wtop_ne hX h0).1]
theorem dlen_words (X k : Nat) (hk : 1 ≤ k) (h : X < 1000000000 ^ k) : (decDigits X).length ≤ 9 * k := (dec_len_iff X (by omega)).2 (by rw [Nat.pow_mul, ten9]; exact h)
theorem tdig_len {X k : Nat} (hX : X < wmax) (hk : k ≤ 232) : (tdig X k).length ≤ 2088 := by
  have h1 := wsplit X k hX hk
  have h2 := wpre_bd X k hk
  have h3 := wsuf_bd X k
  have h4 : (1 : Int) ≤ 1000000000 ^ k := by
    have : 0 < (1000000000 : Int) ^ k := Int.pow_pos (by omega)
    omega
  have h5 : 1 * wsuf X k ≤ 1000000000 ^ k * wsuf X k := Int.mul_le_mul_of_nonneg_right h4 h3
  have h6 : (wsuf X k).toNat ≤ X := by omega
  unfold tdig
  refine Nat.le_trans (dlen_mono h6) ?_
  have h7 := (wlen_le 232 X).1 (wmax_le.1 hX)
  have h8 := dlen_words X 232 (by omega) h7
  omega
end Mt
