/- STRAIGHTNESS: right points, few. -/
import Derived.Test.YtjopphkhpmoedaaGreatDoorNN
namespace Go.Proofs.Wk
open Go.RowKit Mt

theorem keepR {w w' : World} {g : Nat} {o : Obj} (h : w.heap[g]? = some o) (hb : Below w.heap.size w w') : w'.heap[g]? = some o := (hb.block _ (Array.getElem?_eq_some_iff.1 h).1).trans h
def rightB (ls : List St.Pt) : Bool := decide (0 < ls.length) && (decide (ls.length ≤ 8) && decide (St.chkP ls = 0))
theorem rightB_iff {ls : List St.Pt} (h : rightB ls = true) : St.givP ls = 0 ∧ 0 < ls.length ∧ ls.length ≤ 8 ∧ ∀ p ∈ ls, St.InP p := by
  unfold rightB at h
  simp only [Bool.and_eq_true, decide_eq_true_eq] at h
  obtain ⟨h1, h2, h3⟩ := h
  have h0 : St.givP ls = 0 := givP_ok h3 (by omega)
  exact ⟨h0, h1, h2, (St.givP_in h0).2.2⟩
set_option maxRecDepth 100000 in
set_option maxHeartbeats 1000000 in
theorem right_c {v : Value} (ls : List St.Pt) (w : World) (S : SlX w v ls) (hln : ls.length ≤ 140737488355328) : Calls Tryz.prog 25 #[v] w (Ret w (.bool (rightB ls))) := by
  have HCK := Lib.hid (rpCheck_c ls w S hln)
  unfold rightB
  obtain ⟨sa, cap, rfl⟩ := S.len
  generalize St.chkP ls = E at *
  clear S
  generalize ls.length = n at *
  by_cases h1 : 0 < n
  · have z1 : (0 : Int) < (n : Int) := by omega
    rw [decide_eq_true h1]
    by_cases h2 : n ≤ 8
    · have z2 : (n : Int) ≤ 8 := by omega
      rw [decide_eq_true h2]
      have z3 : (E == 0) = decide (E = 0) := rfl
      generalize decide (E = 0) = q at *
      clear h1 h2 hln
      go_enter Tryz.func25, Tryz.ntmps25
      go_wp2_with fail
      ((with_reducible refine (HCK.out).mono ?_); rintro e w1 ⟨rfl, hb1⟩)
      go_wp2
      go_ret
      exact ⟨ret_bool (by simp), hb1⟩
    · have z2 : ¬ (n : Int) ≤ 8 := by omega
      rw [decide_eq_false h2]
      clear h1 h2 hln
      go_enter Tryz.func25, Tryz.ntmps25
      go_wp2
      go_ret
      exact ⟨ret_bool (by simp), Below.refl _ _⟩
  · have z1 : ¬ (0 : Int) < (n : Int) := by omega
    rw [decide_eq_false h1]
    clear h1 hln
    go_enter Tryz.func25, Tryz.ntmps25
    go_wp2
    go_ret
    exact ⟨ret_bool (by simp), Below.refl _ _⟩
end Go.Proofs.Wk
