/- PLAIN MATHEMATICS: the quotient that is rounded down. -/
import Derived.Test.YtjljappilpkelaaGreatDoorWhM
namespace Mt
open Go.Lib Go.Proofs.Wk

theorem fl_unique {m n q r : Int} (h : m = q * n + r) (hp : 0 < n → 0 ≤ r ∧ r < n) (hn : n < 0 → n < r ∧ r ≤ 0) (h0 : n ≠ 0) : m.fdiv n = q ∧ m.fmod n = r := by
  have pos : ∀ {m n q r : Int}, m = q * n + r → 0 < n → 0 ≤ r → r < n → m.fdiv n = q ∧ m.fmod n = r := by
    intro m n q r h h1 h2 h3
    rw [Int.fdiv_eq_ediv_of_nonneg _ (by omega), Int.fmod_eq_emod_of_nonneg _ (by omega), h, Int.add_comm, Int.add_mul_ediv_right _ _ (by omega), Int.ediv_eq_zero_of_lt h2 h3, Int.add_mul_emod_self_right, Int.emod_eq_of_lt h2 h3]
    exact ⟨by omega, rfl⟩
  rcases Int.lt_or_gt_of_ne h0 with h1 | h1
  · obtain ⟨h2, h3⟩ := hn h1
    have := pos (m := -m) (n := -n) (q := q) (r := -r) (by rw [h, Int.mul_neg]; omega) (by omega) (by omega) (by omega)
    rw [Int.neg_fdiv_neg, Int.neg_fmod_neg] at this
    exact ⟨this.1, by omega⟩
  · obtain ⟨h2, h3⟩ := hp h1
    exact pos h h1 h2 h3
theorem nat_parts (X Y : Nat) : (X : Int) = ((X / Y : Nat) : Int) * Y + ((X % Y : Nat) : Int) := by
  have := Nat.div_add_mod X Y
  have e : ((X / Y : Nat) : Int) * (Y : Int) = ((Y * (X / Y) : Nat) : Int) := by rw [Int.natCast_mul, Int.mul_comm]
  rw [e]; omega
/-- No correction is needed. -/
theorem fl_same {sx sy : Bool} {X Y : Nat} (hY : Y ≠ 0) (h : X % Y = 0 ∨ sx = sy) :
    (sg sx X).fdiv (sg sy Y) = sg (sx != sy) (X / Y) ∧ (sg sx X).fmod (sg sy Y) = sg sx (X % Y) := by
  have e := nat_parts X Y
  have hl : X % Y < Y := Nat.mod_lt _ (Nat.pos_of_ne_zero hY)
  generalize X / Y = Q at *
  generalize X % Y = R at *
  apply fl_unique
  · cases sx <;> cases sy <;> simp [sg, Int.neg_mul, Int.mul_neg] <;> omega
  · cases sx <;> cases sy <;> simp [sg] at h ⊢ <;> omega
  · cases sx <;> cases sy <;> simp [sg] at h ⊢ <;> omega
  · cases sy <;> simp [sg] <;> omega
/-- One is taken off. -/
theorem fl_other {sx sy : Bool} {X Y : Nat} (hY : Y ≠ 0) (h : X % Y ≠ 0) (hs : sx ≠ sy) :
    (sg sx X).fdiv (sg sy Y) = sg true (X / Y + 1) ∧ (sg sx X).fmod (sg sy Y) = sg sy (Y - X % Y) := by
  have e := nat_parts X Y
  have hl : X % Y < Y := Nat.mod_lt _ (Nat.pos_of_ne_zero hY)
  generalize X / Y = Q at *
  generalize X % Y = R at *
  have e2 : (-((Q + 1 : Nat) : Int)) * (Y : Int) = -((Q : Int) * Y) - Y := by
    rw [Int.neg_mul, Int.natCast_add, Int.add_mul]; omega
  apply fl_unique
  · cases sx <;> cases sy <;> simp [sg, Int.neg_mul, Int.mul_neg] at hs e2 ⊢ <;> omega
  · cases sx <;> cases sy <;> simp [sg] at hs ⊢ <;> omega
  · cases sx <;> cases sy <;> simp [sg] at hs ⊢ <;> omega
  · cases sy <;> simp [sg] <;> omega
/-- The quotient rounded down, from the one that is rounded towards 0. -/
theorem fl_trunc {m n : Int} (h0 : n ≠ 0) :
    (m.tmod n ≠ 0 ∧ ((m.tmod n < 0) ≠ (n < 0)) → m.fdiv n = m.tdiv n - 1 ∧ m.fmod n = m.tmod n + n) ∧
    (¬ (m.tmod n ≠ 0 ∧ ((m.tmod n < 0) ≠ (n < 0))) → m.fdiv n = m.tdiv n ∧ m.fmod n = m.tmod n) := by
  have e := Int.mul_tdiv_add_tmod m n
  have hb : (m.tmod n).natAbs < n.natAbs := by
    rw [Int.natAbs_tmod]; exact Nat.mod_lt _ (by omega)
  generalize m.tdiv n = q at *
  generalize m.tmod n = r at *
  have e2 : (q - 1) * n = n * q - n := by rw [Int.sub_mul, Int.mul_comm q]; omega
  have e3 : q * n = n * q := Int.mul_comm ..
  refine ⟨fun h => fl_unique (by omega) (fun hn => ?_) (fun hn => ?_) h0, fun h => fl_unique (by omega) (fun hn => ?_) (fun hn => ?_) h0⟩
  · obtain ⟨h1, h2⟩ := h
    have : r < 0 := by
      by_cases h3 : r < 0
      · exact h3
      · exact absurd (propext ⟨fun _ => by omega, fun _ => by omega⟩) h2
    omega
  · obtain ⟨h1, h2⟩ := h
    have : ¬ r < 0 := fun h3 => h2 (propext ⟨fun _ => hn, fun _ => h3⟩)
    omega
  · have : ¬ r < 0 := fun h3 => h ⟨by omega, fun e4 => by have := e4 ▸ h3; omega⟩
    omega
  · have : r ≤ 0 := by
      by_cases h3 : 0 < r
      · exact absurd ⟨by omega, fun e4 => by have : r < 0 := e4 ▸ hn; omega⟩ h
      · omega
    omega
end Mt
