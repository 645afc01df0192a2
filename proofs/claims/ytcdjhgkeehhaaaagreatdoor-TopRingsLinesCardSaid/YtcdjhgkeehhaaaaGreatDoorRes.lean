/- RESULTS OF WHICH ONE IS A STRUCT OR AN ARRAY. -/
import Derived.Test.YtcdjhgkeehhaaaaGreatDoorBase
namespace Go.Proofs.Wk
open Go.RowKit

section
variable {P : Program} {fn : Func} {t u v p : Tmp} {ty : TypeId} {tmps : Array Value} {w : World} {g : Nat} {T : TypeId} {cs : Array Value} {fr : Nat × Nat} {d : TypeDesc}
theorem res_ct (h : fn.results = #[.cell p ty, .tmp u]) (hp : tmps.getD p undef = .pointer (some ⟨g, 0, none⟩)) (hg : w.heap[g]? = some (.cells cs T fr))
    (hu : P.underlying ty = some d) (hd : (match d with | .struct _ | .array _ _ => true | _ => false) = true) (hi : (P.info? ty).map (·.size) = some cs.size) {x : Value} (hx : tmps.getD u undef = x) :
    (results fn tmps).run P w = .ok (.tuple #[.agg cs, x]) w := by
  rw [Array.getD_eq_getD_getElem?] at hp hx
  simp [results, h, hp, hx, asAddr, Result.andThen, run_loadVar_row w g T ty cs fr d hg hu hd hi]
theorem res_tc (h : fn.results = #[.tmp u, .cell p ty]) (hp : tmps.getD p undef = .pointer (some ⟨g, 0, none⟩)) (hg : w.heap[g]? = some (.cells cs T fr))
    (hu : P.underlying ty = some d) (hd : (match d with | .struct _ | .array _ _ => true | _ => false) = true) (hi : (P.info? ty).map (·.size) = some cs.size) {x : Value} (hx : tmps.getD u undef = x) :
    (results fn tmps).run P w = .ok (.tuple #[x, .agg cs]) w := by
  rw [Array.getD_eq_getD_getElem?] at hp hx
  simp [results, h, hp, hx, asAddr, Result.andThen, run_loadVar_row w g T ty cs fr d hg hu hd hi]
theorem res_tct (h : fn.results = #[.tmp u, .cell p ty, .tmp t]) (hp : tmps.getD p undef = .pointer (some ⟨g, 0, none⟩)) (hg : w.heap[g]? = some (.cells cs T fr))
    (hu : P.underlying ty = some d) (hd : (match d with | .struct _ | .array _ _ => true | _ => false) = true) (hi : (P.info? ty).map (·.size) = some cs.size) {x y : Value} (hx : tmps.getD u undef = x) (hy : tmps.getD t undef = y) :
    (results fn tmps).run P w = .ok (.tuple #[x, .agg cs, y]) w := by
  rw [Array.getD_eq_getD_getElem?] at hp hx hy
  simp [results, h, hp, hx, hy, asAddr, Result.andThen, run_loadVar_row w g T ty cs fr d hg hu hd hi]
theorem res_tctt (h : fn.results = #[.tmp u, .cell p ty, .tmp t, .tmp v]) (hp : tmps.getD p undef = .pointer (some ⟨g, 0, none⟩)) (hg : w.heap[g]? = some (.cells cs T fr))
    (hu : P.underlying ty = some d) (hd : (match d with | .struct _ | .array _ _ => true | _ => false) = true) (hi : (P.info? ty).map (·.size) = some cs.size) {x y z : Value} (hx : tmps.getD u undef = x) (hy : tmps.getD t undef = y) (hz : tmps.getD v undef = z) :
    (results fn tmps).run P w = .ok (.tuple #[x, .agg cs, y, z]) w := by
  rw [Array.getD_eq_getD_getElem?] at hp hx hy hz
  simp [results, h, hp, hx, hy, hz, asAddr, Result.andThen, run_loadVar_row w g T ty cs fr d hg hu hd hi]
end
/-! ### Cells of rows that are known whole -/
theorem _root_.Go.RowKit.Below.cel {B : Nat} {a w : World} (h : Below B a w) {p : Addr} (hp : B ≤ p.block) (v : Value) : Below B a (w.setCell p v) :=
  ⟨h.os, h.tape, h.output, by rw [show (w.setCell p v).heap.size = w.heap.size by simp [World.setCell]]; exact h.size, fun k hk => by rw [heap_setCell_other w p k v (by omega)]; exact h.block k hk⟩
theorem c1row {w : World} {b : Nat} {u0 : Value} {T : TypeId} {fr : Nat × Nat} (h : w.heap[b]? = some (.cells #[u0] T fr)) : w.cell? ⟨b, 0, none⟩ = some u0 := by rw [cell_of_row _ _ _ _ _ _ h]; rfl
theorem c2row {w : World} {b : Nat} {u0 u1 : Value} {T : TypeId} {fr : Nat × Nat} (h : w.heap[b]? = some (.cells #[u0, u1] T fr)) : w.cell? ⟨b, 0, none⟩ = some u0 ∧ w.cell? ⟨b, 1, none⟩ = some u1 :=
  ⟨by rw [cell_of_row _ _ _ _ _ _ h]; rfl, by rw [cell_of_row _ _ _ _ _ _ h]; rfl⟩
theorem c4row {w : World} {b : Nat} {u0 u1 u2 u3 : Value} {T : TypeId} {fr : Nat × Nat} (h : w.heap[b]? = some (.cells #[u0, u1, u2, u3] T fr)) :
    w.cell? ⟨b, 0, none⟩ = some u0 ∧ w.cell? ⟨b, 1, none⟩ = some u1 ∧ w.cell? ⟨b, 2, none⟩ = some u2 ∧ w.cell? ⟨b, 3, none⟩ = some u3 :=
  ⟨by rw [cell_of_row _ _ _ _ _ _ h]; rfl, by rw [cell_of_row _ _ _ _ _ _ h]; rfl, by rw [cell_of_row _ _ _ _ _ _ h]; rfl, by rw [cell_of_row _ _ _ _ _ _ h]; rfl⟩
theorem s1row {w : World} {g : Nat} {u0 v0 : Value} {T : TypeId} (h : w.heap[g]? = some (.cells #[u0] T (0, 0))) : (w.setCell ⟨g, 0, none⟩ v0).heap[g]? = some (.cells #[v0] T (0, 0)) := heap_setCell_same w g 0 _ _ v0 h
theorem s2row {w : World} {g : Nat} {u0 u1 v0 v1 : Value} {T : TypeId} (h : w.heap[g]? = some (.cells #[u0, u1] T (0, 0))) :
    ((w.setCell ⟨g, 0, none⟩ v0).setCell ⟨g, 1, none⟩ v1).heap[g]? = some (.cells #[v0, v1] T (0, 0)) := by
  have h0 : (w.setCell ⟨g, 0, none⟩ v0).heap[g]? = some (.cells #[v0, u1] T (0, 0)) := heap_setCell_same w g 0 _ _ v0 h
  exact heap_setCell_same _ g 1 _ _ v1 h0
theorem s4row {w : World} {g : Nat} {u0 u1 u2 u3 v0 v1 v2 v3 : Value} {T : TypeId} (h : w.heap[g]? = some (.cells #[u0, u1, u2, u3] T (0, 0))) :
    ((((w.setCell ⟨g, 0, none⟩ v0).setCell ⟨g, 1, none⟩ v1).setCell ⟨g, 2, none⟩ v2).setCell ⟨g, 3, none⟩ v3).heap[g]? = some (.cells #[v0, v1, v2, v3] T (0, 0)) := by
  have h0 : (w.setCell ⟨g, 0, none⟩ v0).heap[g]? = some (.cells #[v0, u1, u2, u3] T (0, 0)) := heap_setCell_same w g 0 _ _ v0 h
  have h1 : ((w.setCell ⟨g, 0, none⟩ v0).setCell ⟨g, 1, none⟩ v1).heap[g]? = some (.cells #[v0, v1, u2, u3] T (0, 0)) := heap_setCell_same _ g 1 _ _ v1 h0
  have h2 : (((w.setCell ⟨g, 0, none⟩ v0).setCell ⟨g, 1, none⟩ v1).setCell ⟨g, 2, none⟩ v2).heap[g]? = some (.cells #[v0, v1, v2, u3] T (0, 0)) := heap_setCell_same _ g 2 _ _ v2 h1
  exact heap_setCell_same _ g 3 _ _ v3 h2
theorem b2row {a w : World} {B g : Nat} {v0 v1 : Value} (h : Below B a w) (hg : B ≤ g) : Below B a ((w.setCell ⟨g, 0, none⟩ v0).setCell ⟨g, 1, none⟩ v1) := (h.cel hg _).cel hg _
theorem b4row {a w : World} {B g : Nat} {v0 v1 v2 v3 : Value} (h : Below B a w) (hg : B ≤ g) :
    Below B a ((((w.setCell ⟨g, 0, none⟩ v0).setCell ⟨g, 1, none⟩ v1).setCell ⟨g, 2, none⟩ v2).setCell ⟨g, 3, none⟩ v3) := (((h.cel hg _).cel hg _).cel hg _).cel hg _
theorem o2row {w : World} {g k : Nat} {v0 v1 : Value} (hk : k ≠ g) : ((w.setCell ⟨g, 0, none⟩ v0).setCell ⟨g, 1, none⟩ v1).heap[k]? = w.heap[k]? :=
  (heap_setCell_other _ _ _ _ hk).trans (heap_setCell_other _ _ _ _ hk)
theorem o4row {w : World} {g k : Nat} {v0 v1 v2 v3 : Value} (hk : k ≠ g) : ((((w.setCell ⟨g, 0, none⟩ v0).setCell ⟨g, 1, none⟩ v1).setCell ⟨g, 2, none⟩ v2).setCell ⟨g, 3, none⟩ v3).heap[k]? = w.heap[k]? :=
  (heap_setCell_other _ _ _ _ hk).trans ((heap_setCell_other _ _ _ _ hk).trans ((heap_setCell_other _ _ _ _ hk).trans (heap_setCell_other _ _ _ _ hk)))
theorem s2rowd {w : World} {g : Nat} {u0 u1 v0 v1 : Value} {T : TypeId} (h : w.heap[g]? = some (.cells #[u0, u1] T (0, 0))) :
    ((w.setCell ⟨g, 0, none⟩ v0).setCell ⟨g, 1, none⟩ v1).drew.heap[g]? = some (.cells #[v0, v1] T (0, 0)) := s2row h
theorem s4rowd {w : World} {g : Nat} {u0 u1 u2 u3 v0 v1 v2 v3 : Value} {T : TypeId} (h : w.heap[g]? = some (.cells #[u0, u1, u2, u3] T (0, 0))) :
    ((((w.setCell ⟨g, 0, none⟩ v0).setCell ⟨g, 1, none⟩ v1).setCell ⟨g, 2, none⟩ v2).setCell ⟨g, 3, none⟩ v3).drew.heap[g]? = some (.cells #[v0, v1, v2, v3] T (0, 0)) := s4row h
theorem free_row {w : World} {g : Nat} {cs : Array Value} {T : TypeId} (h : w.heap[g]? = some (.cells cs T (0, 0))) (j : Nat) : w.frozen? ⟨g, j, none⟩ = false := frozen_of_row w g j _ _ h
end Go.Proofs.Wk
