/- THE REFERENCE's CHECK of a text. -/
import Derived.Test.YtcdjhgkeehhaaaaGreatDoorBase
import Derived.Test.YtcdjhgkeehhaaaaGreatDoorGA
namespace Go.Proofs.Wk
open Go.RowKit Mt

end Go.Proofs.Wk
/- THE REFERENCE's SMALL FUNCTIONS, each walked once: what it returns, as a function on lists of bytes. -/
namespace Go.Proofs.Wk
open Go.RowKit Mt

end Go.Proofs.Wk
/- THE REFERENCE's PRODUCTS ON PAPER. -/
namespace Go.Proofs.Wk
open Go.RowKit Mt

/-- How great the columns are, after i rows and k places. -/
def ColBd (l : List Int) (i k : Nat) : Prop := ∀ (j : Nat) (v : Int), l[j]? = some v → 0 ≤ v ∧ v ≤ 81 * (i + 1) ∧ (i + k + 1 ≤ j → v ≤ 81 * i)
theorem colbd_start (N : Nat) : ColBd (List.replicate N 0) 0 0 := by
  intro j v h
  rw [List.getElem?_replicate] at h
  split at h
  · injection h with h; subst h; omega
  · cases h
theorem colbd_step {l : List Int} {i k : Nat} (h : ColBd l i k) {v : Int} (hv : l[i + k + 1]? = some v) {e : Int} (h0 : 0 ≤ e) (h1 : e ≤ 81) : ColBd (l.set (i + k + 1) (v + e)) i (k + 1) := by
  intro j u hu
  obtain ⟨a, b, c⟩ := h _ _ hv
  have hlt := (List.getElem?_eq_some_iff.1 hv).1
  by_cases hj : i + k + 1 = j
  · subst hj
    rw [List.getElem?_set_self hlt] at hu
    injection hu with hu
    have := c (Nat.le_refl _)
    omega
  · rw [List.getElem?_set_ne hj] at hu
    obtain ⟨a', b', c'⟩ := h _ _ hu
    exact ⟨a', b', fun h => c' (by omega)⟩
theorem colbd_row {l : List Int} {i k : Nat} (h : ColBd l i k) : ColBd l (i + 1) 0 := by
  intro j u hu
  obtain ⟨a', b', c'⟩ := h _ _ hu
  exact ⟨a', by omega, fun _ => by omega⟩

end Go.Proofs.Wk
