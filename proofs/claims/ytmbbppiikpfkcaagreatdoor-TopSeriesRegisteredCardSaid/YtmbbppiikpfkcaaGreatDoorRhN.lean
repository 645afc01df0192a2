/- REGISTERS OF LOTS: the reference's changed. -/
import Derived.Test.YtmbbppiikpfkcaaGreatDoorVF
import Derived.Test.YtmbbppiikpfkcaaGreatDoorKC
namespace Go.Proofs.Wk
open Go.RowKit Mt

theorem results_cell_row_tmp {P : Program} {fn : Func} {p u : Tmp} {ty : TypeId} (h : fn.results = #[.cell p ty, .tmp u]) (tmps : Array Value) (w : World) (g : Nat) (t : TypeId) (cs : Array Value) (fr : Nat × Nat) (d : TypeDesc)
    (hp : tmps.getD p undef = .pointer (some ⟨g, 0, none⟩)) (hg : w.heap[g]? = some (.cells cs t fr))
    (hu : P.underlying ty = some d) (hd : (match d with | .struct _ | .array _ _ => true | _ => false) = true) (hi : (P.info? ty).map (·.size) = some cs.size) :
    (results fn tmps).run P w = .ok (.tuple #[.agg cs, tmps.getD u undef]) w := by
  rw [results_cell_tmp h, hp]
  simp [asAddr, Result.andThen, run_loadVar_row w g t ty cs fr d hg hu hd hi]
theorem cell7 {w : World} {b : Nat} {u0 u1 u2 u3 u4 u5 u6 : Value} {T : TypeId} (h : w.heap[b]? = some (.cells #[u0, u1, u2, u3, u4, u5, u6] T (0, 0))) :
    (w.cell? ⟨b, 0, none⟩ = some u0 ∧ w.cell? ⟨b, 1, none⟩ = some u1 ∧ w.cell? ⟨b, 2, none⟩ = some u2 ∧ w.cell? ⟨b, 3, none⟩ = some u3 ∧ w.cell? ⟨b, 4, none⟩ = some u4 ∧ w.cell? ⟨b, 5, none⟩ = some u5 ∧ w.cell? ⟨b, 6, none⟩ = some u6) ∧
    (∀ j, w.frozen? ⟨b, j, none⟩ = false) :=
  ⟨⟨by rw [cell_of_row _ _ _ _ _ _ h]; rfl, by rw [cell_of_row _ _ _ _ _ _ h]; rfl, by rw [cell_of_row _ _ _ _ _ _ h]; rfl, by rw [cell_of_row _ _ _ _ _ _ h]; rfl, by rw [cell_of_row _ _ _ _ _ _ h]; rfl, by rw [cell_of_row _ _ _ _ _ _ h]; rfl, by rw [cell_of_row _ _ _ _ _ _ h]; rfl⟩,
   fun j => frozen_of_row _ _ _ _ _ h⟩
theorem put7 {w : World} {g : Nat} {u0 u1 u2 u3 u4 u5 u6 v0 v1 v2 v3 v4 v5 v6 : Value} {T : TypeId} (h : w.heap[g]? = some (.cells #[u0, u1, u2, u3, u4, u5, u6] T (0, 0))) :
    (((((((w.setCell ⟨g, 0, none⟩ v0).setCell ⟨g, 1, none⟩ v1).setCell ⟨g, 2, none⟩ v2).setCell ⟨g, 3, none⟩ v3).setCell ⟨g, 4, none⟩ v4).setCell ⟨g, 5, none⟩ v5).setCell ⟨g, 6, none⟩ v6).heap[g]? = some (.cells #[v0, v1, v2, v3, v4, v5, v6] T (0, 0)) := by
  have h0 : (w.setCell ⟨g, 0, none⟩ v0).heap[g]? = some (.cells #[v0, u1, u2, u3, u4, u5, u6] T (0, 0)) := heap_setCell_same w g 0 _ _ v0 h
  generalize w.setCell ⟨g, 0, none⟩ v0 = w at *
  have h1 : (w.setCell ⟨g, 1, none⟩ v1).heap[g]? = some (.cells #[v0, v1, u2, u3, u4, u5, u6] T (0, 0)) := heap_setCell_same w g 1 _ _ v1 h0
  generalize w.setCell ⟨g, 1, none⟩ v1 = w at *
  have h2 : (w.setCell ⟨g, 2, none⟩ v2).heap[g]? = some (.cells #[v0, v1, v2, u3, u4, u5, u6] T (0, 0)) := heap_setCell_same w g 2 _ _ v2 h1
  generalize w.setCell ⟨g, 2, none⟩ v2 = w at *
  have h3 : (w.setCell ⟨g, 3, none⟩ v3).heap[g]? = some (.cells #[v0, v1, v2, v3, u4, u5, u6] T (0, 0)) := heap_setCell_same w g 3 _ _ v3 h2
  generalize w.setCell ⟨g, 3, none⟩ v3 = w at *
  have h4 : (w.setCell ⟨g, 4, none⟩ v4).heap[g]? = some (.cells #[v0, v1, v2, v3, v4, u5, u6] T (0, 0)) := heap_setCell_same w g 4 _ _ v4 h3
  generalize w.setCell ⟨g, 4, none⟩ v4 = w at *
  have h5 : (w.setCell ⟨g, 5, none⟩ v5).heap[g]? = some (.cells #[v0, v1, v2, v3, v4, v5, u6] T (0, 0)) := heap_setCell_same w g 5 _ _ v5 h4
  generalize w.setCell ⟨g, 5, none⟩ v5 = w at *
  exact heap_setCell_same w g 6 _ _ v6 h5
theorem put7b {a w : World} {B g : Nat} {v0 v1 v2 v3 v4 v5 v6 : Value} (h : Below B a w) (hg : B ≤ g) :
    Below B a (((((((w.setCell ⟨g, 0, none⟩ v0).setCell ⟨g, 1, none⟩ v1).setCell ⟨g, 2, none⟩ v2).setCell ⟨g, 3, none⟩ v3).setCell ⟨g, 4, none⟩ v4).setCell ⟨g, 5, none⟩ v5).setCell ⟨g, 6, none⟩ v6) :=
  Below.cellP (Below.cellP (Below.cellP (Below.cellP (Below.cellP (Below.cellP (Below.cellP h hg _) hg _) hg _) hg _) hg _) hg _) hg _
end Go.Proofs.Wk
