/- PLAIN LAWS: sums of lists of rational numbers, with an error where a number is too large. -/
import Derived.Test.YtachiilmgnognaaGreatDoorRatB
namespace Go.Proofs.Wk
open Go.RowKit Mt

/-- A sum, step by step, from a number on. -/
def sumF : List Rat → Rat → Txt × Int
  | [], x => (rtoa x, 0)
  | q :: t, x => if (addQ x q).2 = 0 then sumF t (x + q) else ([], (addQ x q).2)
def sum2 (ls : List Txt) : Txt × Int := if 4096 < ls.length then ([], 5) else if firstR ls = 0 then sumF (ls.map rv) 0 else ([], firstR ls)
theorem okQ_divInt {m n : Int} (hm : m.natAbs < big) (hn : n.natAbs < big) (h : n ≠ 0) : okQ (Rat.divInt m n) :=
  ⟨Nat.lt_of_le_of_lt (low_le_num h) hm, Nat.lt_of_le_of_lt (low_le_den h) hn⟩
theorem okQ_zero : okQ 0 := ⟨by have := one_lt_big'; show (0 : Int).natAbs < big; simp; omega, one_lt_big'⟩
theorem addQ_cases (x q : Rat) : (addQ x q = (rtoa (x + q), 0) ∧ okQ (x + q)) ∨ addQ x q = ([], 11) := by
  unfold addQ
  split
  · rename_i h
    simp only [allB, List.all_cons, List.all_nil, Bool.and_true, Bool.and_eq_true, decide_eq_true_eq] at h
    refine .inl ⟨rfl, ?_⟩
    rw [← add_divInt]
    exact okQ_divInt h.2.2.2 h.2.2.1 (Int.mul_ne_zero (den_ne x) (den_ne q))
  · exact .inr rfl
theorem rbin_ok {α : Type} (z : α) (f : Rat → Rat → α × Int) {p q : Rat} (hp : okQ p) (hq : okQ q) : rbin z f (rtoa p) (rtoa q) = f p q := by
  unfold rbin
  have h0 : firstR [rtoa p, rtoa q] = 0 := firstR_ok (qs := [p, q]) (by intro x hx; simp at hx; rcases hx with rfl | rfl <;> assumption)
  rw [if_pos h0, rv_rtoa, rv_rtoa]
theorem run1_ok {α : Type} (z : α) (f : Rat → α × Int) {p : Rat} (hp : okQ p) : run1 z f (rtoa p) = f p := by
  unfold run1
  rw [if_pos (rchk_rtoa hp), rv_rtoa]
theorem sumF_drop {qs : List Rat} {i : Nat} (h : i < qs.length) (x : Rat) : sumF (qs.drop i) x = if (addQ x qs[i]).2 = 0 then sumF (qs.drop (i + 1)) (x + qs[i]) else ([], (addQ x qs[i]).2) := by
  rw [List.drop_eq_getElem_cons h]; rfl
theorem map_rv (qs : List Rat) : (qs.map rtoa).map rv = qs := by
  rw [List.map_map]
  conv => rhs; rw [← List.map_id qs]
  exact List.map_congr_left fun q _ => rv_rtoa q
theorem sumF_bd : ∀ (l : List Rat) (x : Rat), 0 ≤ (sumF l x).2 ∧ (sumF l x).2 ≤ 11
  | [], _ => by unfold sumF; simp
  | q :: t, x => by
    unfold sumF
    split
    · exact sumF_bd t _
    · rcases addQ_cases x q with ⟨h, -⟩ | h <;> rw [h] <;> simp
theorem sum2_bd (ls : List Txt) : 0 ≤ (sum2 ls).2 ∧ (sum2 ls).2 ≤ 11 := by
  unfold sum2; split
  · simp
  · split
    · exact sumF_bd _ _
    · exact firstR_range ls
end Go.Proofs.Wk
