/- THE REFERENCE's RATIONAL NUMBERS: parts, the check, lowest terms. -/
import Derived.Test.YtcdjhgkeehhaaaaGreatDoorHA
import Derived.Test.YtcdjhgkeehhaaaaGreatDoorGN
namespace Go.Proofs.Wk
open Go.RowKit Mt

theorem rnum_snoc {l : Txt} {i : Nat} (h : i < l.length) (hn : ∀ c ∈ l.take i, c ≠ 47) (hi : l[i] = 47) : rhas l = true ∧ (rnum l).length = i := by
  have e : l = l.take i ++ 47 :: l.drop (i + 1) := by
    conv => lhs; rw [← List.take_append_drop i l, List.drop_eq_getElem_cons h, hi]
  constructor
  · rw [e]; exact rhas_yes _ _
  · unfold rnum
    rw [e, takeWhile_no hn]
    simp; omega
theorem take_no {l : Txt} {i : Nat} (h : i < l.length) (hn : ∀ c ∈ l.take i, c ≠ 47) (hi : l[i] ≠ 47) : ∀ c ∈ l.take (i + 1), c ≠ 47 := by
  intro c hc
  rw [List.take_succ_eq_append_getElem h] at hc
  rcases List.mem_append.1 hc with h1 | h1
  · exact hn c h1
  · rw [List.mem_singleton.1 h1]; exact hi
def slashI (l : Txt) : Int := if rhas l then ((rnum l).length : Int) else -1
theorem parts_of (a b : Txt) : (a ++ 47 :: b).drop (a.length + 1) = b ∧ (a ++ 47 :: b).take a.length = a ∧ a.length < (a ++ 47 :: b).length := by
  refine ⟨?_, List.take_left, by simp⟩
  rw [show a ++ 47 :: b = (a ++ [47]) ++ b by simp, show a.length + 1 = (a ++ [47]).length by simp]
  exact List.drop_left
theorem rden_drop {l : Txt} (h : rhas l = true) : l.drop ((rnum l).length + 1) = rden l ∧ l.take (rnum l).length = rnum l ∧ (rnum l).length < l.length := by
  rcases split_eq l with ⟨hs, e⟩ | ⟨hs, e⟩
  · rw [h] at hs; cases hs
  · have := parts_of (rnum l) (rden l)
    rwa [← e] at this
theorem rnum_no {l : Txt} (h : rhas l = false) : rnum l = l ∧ rden l = [49] := by
  rcases split_eq l with ⟨hs, e⟩ | ⟨hs, e⟩
  · exact ⟨e.symm, by unfold rden; rw [h]; rfl⟩
  · rw [h] at hs; cases hs
end Go.Proofs.Wk
/- THE REFERENCE's RATIONAL NUMBERS: lowest terms, the check. -/
namespace Go.Proofs.Wk
open Go.RowKit Mt

theorem lng_low {m n : Int} {k : Nat} (hn : lng n ≤ k) : lng (Int.gcd m n) ≤ k ∨ n = 0 := by
  by_cases h : n = 0
  · exact .inr h
  · refine .inl (Nat.le_trans (lng_mono ?_) hn)
    have h1 : Int.gcd m n ∣ n.natAbs := by rw [Int.gcd]; exact Nat.gcd_dvd_right _ _
    have := Nat.le_of_dvd (by omega) h1
    simpa using this
theorem ljoin {m n : Int} (h : n ≠ 0) : rtoa (Rat.divInt m n) = joinT (m.fdiv (lowG m n)) (n.fdiv (lowG m n)) := by
  obtain ⟨-, e1, e2⟩ := low_spec (m := m) h
  rw [e1, e2, join_rtoa]
theorem chk_three (l : Txt) : chk l = 3 ∨ chk l = 11 ∨ chk l = 0 := by
  rcases chk_cases l with ⟨-, h⟩ | ⟨-, -, h⟩ | ⟨-, -, h⟩
  · exact .inl h
  · exact .inr (.inl h)
  · exact .inr (.inr h)
theorem rpart_le (l : Txt) {k : Nat} (h : l.length ≤ k) (hk : 1 ≤ k) : (rnum l).length ≤ k ∧ (rden l).length ≤ k := by
  rcases split_eq l with ⟨hs, e⟩ | ⟨hs, e⟩
  · rw [← e]
    refine ⟨h, ?_⟩
    unfold rden; rw [hs]; exact hk
  · have e2 : l.length = (rnum l).length + ((rden l).length + 1) := by
      conv => lhs; rw [e]
      simp
    omega
theorem big_lng {n : Int} (h : n.natAbs < big) {k : Nat} (hk : 1024 ≤ k) : lng n ≤ k := by have := lng_big h; omega
theorem lng_one : lng (1 : Int) ≤ 1 := (lng_le 1 (k := 1) (by omega)).2 (by decide)
end Go.Proofs.Wk
