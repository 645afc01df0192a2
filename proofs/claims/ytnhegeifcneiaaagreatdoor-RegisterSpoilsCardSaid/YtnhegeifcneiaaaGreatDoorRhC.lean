/- REGISTERS OF LOTS: done: what an entry makes of a register. -/
import Derived.Test.YtnhegeifcneiaaaGreatDoorKE
import Derived.Test.YtnhegeifcneiaaaGreatDoorKD
namespace Go.Proofs.Wk
open Go.RowKit Mt

/-- A register and an error's number. -/
def DoneP (w : World) (r : List Rg.Lt × Int) (e : Ending) (w' : World) : Prop := ∃ v', e = .returned (.tuple #[v', .int .i64 r.2]) ∧ SlX w' v' r.1 ∧ Below w.heap.size w w'
theorem doneL_k {ls : List Rg.Lt} {x : Rg.En} (k : x.k ≠ 0) (hh : Rg.has ls x.lot = true) (hp : Rg.pos ls x.lot < ls.length) :
    Rg.doneL ls x = if (Rg.changed ls[Rg.pos ls x.lot] x).2 ≠ 0 then ([], (Rg.changed ls[Rg.pos ls x.lot] x).2) else (ls.set (Rg.pos ls x.lot) (Rg.changed ls[Rg.pos ls x.lot] x).1, 0) := by
  unfold Rg.doneL
  rw [if_neg k, List.getElem?_eq_getElem hp]
  simp only [if_pos hh]
theorem doneL_n {ls : List Rg.Lt} {x : Rg.En} (k : x.k ≠ 0) (hh : Rg.has ls x.lot = false) : Rg.doneL ls x = ([], 6) := by
  unfold Rg.doneL
  rw [if_neg k]
  cases ls[Rg.pos ls x.lot]? with
  | none => rfl
  | some a => simp only [hh]; rfl
theorem doneL_t {ls : List Rg.Lt} {x : Rg.En} (k : x.k = 0) (hh : Rg.has ls x.lot = true) : Rg.doneL ls x = ([], 7) := by
  unfold Rg.doneL
  rw [if_pos k, if_pos hh]
theorem doneL_f {ls : List Rg.Lt} {x : Rg.En} (k : x.k = 0) (hh : Rg.has ls x.lot = false) (h : ls.length = 256) : Rg.doneL ls x = ([], 5) := by
  unfold Rg.doneL
  rw [if_pos k, if_neg (by rw [hh]; decide), if_pos h]
theorem doneL_o {ls : List Rg.Lt} {x : Rg.En} (k : x.k = 0) (hh : Rg.has ls x.lot = false) (h : ls.length ≠ 256) : Rg.doneL ls x = (ls.take (Rg.pos ls x.lot) ++ Rg.newLot x :: ls.drop (Rg.pos ls x.lot), 0) := by
  unfold Rg.doneL
  rw [if_pos k, if_neg (by rw [hh]; decide), if_neg h]
theorem RX.put {w w' : World} {g : Nat} {ls : List Rg.Lt} {i : Nat} {y : Rg.Lt} (h : RX w g 0 ls) (hp : PutC w w' g (i * 7) y) : RX w' g 0 (ls.set i y) := fun i' hi' j hj => by
  rw [List.length_set] at hi'
  have hj : j < 7 := hj
  show w'.cell? ⟨g, 0 + i' * 7 + j, none⟩ = _
  rw [hp]
  by_cases e : i = i'
  · subst e
    rw [if_pos (by omega), List.getElem_set_self, show 0 + i * 7 + j - i * 7 = j by omega]
    rfl
  · rw [if_neg (by omega), List.getElem_set_ne e]
    exact h i' hi' j hj
theorem RX.at {w : World} {g : Nat} {ls : List Rg.Lt} (h : RX w g 0 ls) {i : Nat} (hi : i < ls.length) (hg : g < w.heap.size) : LotAt w g (i * 7) ls[i] := by
  have := h.lot hi
  simp only [Nat.zero_add] at this
  obtain ⟨k0, k1, k2, k3, k4, k5, k6⟩ := this
  exact ⟨k0, k1, k2, k3, k4, k5, k6, hg⟩
theorem tame {x : Rg.Lt} (h : Rg.lotE x = 0) : Tame x := by
  obtain ⟨⟨a, b⟩, c, d, e, f, -⟩ := (Rg.lotE_iff x).1 h
  exact ⟨⟨by omega, b⟩, c, d, e, f⟩
theorem Below.und {B : Nat} {w w' : World} (h : Below B w.drew w') : Below B w w' := ⟨h.os, h.tape, h.output, h.size, h.block⟩
theorem cell3 {w : World} {b : Nat} {u0 u1 u2 : Value} {T : TypeId} {fr : Nat × Nat} (h : w.heap[b]? = some (.cells #[u0, u1, u2] T fr)) : w.cell? ⟨b, 0, none⟩ = some u0 ∧ w.cell? ⟨b, 1, none⟩ = some u1 ∧ w.cell? ⟨b, 2, none⟩ = some u2 :=
  ⟨by rw [cell_of_row _ _ _ _ _ _ h]; rfl, by rw [cell_of_row _ _ _ _ _ _ h]; rfl, by rw [cell_of_row _ _ _ _ _ _ h]; rfl⟩
end Go.Proofs.Wk
