/- ROWS OF CELLS: SLICES OF STRUCTS. -/
import Derived.Test.YtcdjhgkeehhaaaaGreatDoorGL
import Derived.Laws.CopyOwn
import Derived.Lib.Overlaps
import Derived.Lib.AppendZerosOnto
import Derived.Deep.AppendSrc
namespace Go.Proofs.Wk
open Go.RowKit Mt

/-- A type whose values lie as k cells. -/
class Row (α : Type) where
  enc : α → List Value
  k : Nat
  len : ∀ a, (enc a).length = k
  pos : 0 < k
  one : ∀ a, ∀ u ∈ enc a, u.oneCell' = true
section
variable {α : Type} [Row α]
def rcells (ls : List α) : List Value := ls.flatMap Row.enc
theorem rcells_cons (a : α) (ls : List α) : rcells (a :: ls) = Row.enc a ++ rcells ls := rfl
theorem rcells_len : ∀ ls : List α, (rcells ls).length = ls.length * Row.k α
  | [] => by simp [rcells]
  | a :: t => by rw [rcells_cons, List.length_append, rcells_len t, Row.len, List.length_cons, Nat.succ_mul, Nat.add_comm]
theorem rcells_at : ∀ (ls : List α) (i : Nat) (h : i < ls.length) (j : Nat), j < Row.k α → (rcells ls)[i * Row.k α + j]? = (Row.enc ls[i])[j]?
  | a :: t, 0, _, j, hj => by
    rw [rcells_cons, Nat.zero_mul, Nat.zero_add, List.getElem?_append_left (by rw [Row.len]; exact hj)]; rfl
  | a :: t, i + 1, h, j, hj => by
    rw [rcells_cons, List.getElem?_append_right (by rw [Row.len, Nat.succ_mul]; omega), Row.len, show (i + 1) * Row.k α + j - Row.k α = i * Row.k α + j by rw [Nat.succ_mul]; omega]
    exact rcells_at t i (by simpa using h) j hj
/-- A row in memory. -/
def RX (w : World) (b off : Nat) (ls : List α) : Prop := ∀ i (h : i < ls.length) j, j < Row.k α → w.cell? ⟨b, off + i * Row.k α + j, none⟩ = (Row.enc ls[i])[j]?
theorem RX.later {w w' : World} {B b off : Nat} {ls : List α} (h : RX w b off ls) (hb : Below B w w') (hlt : b < B) : RX w' b off ls := fun i hi j hj => by
  rw [hb.cell (p := ⟨b, off + i * Row.k α + j, none⟩) hlt]; exact h i hi j hj
/-- A slice of rows. -/
def SlX (w : World) (v : Value) (ls : List α) : Prop :=
  (∃ a cap, v = .slice a 0 cap ∧ ls = []) ∨ ∃ b off cap, v = .slice (some ⟨b, off, none⟩) ls.length cap ∧ RX w b off ls ∧ b < w.heap.size
theorem SlX.later {w w' : World} {v : Value} {ls : List α} (h : SlX w v ls) (hb : Below w.heap.size w w') : SlX w' v ls := by
  rcases h with h | ⟨b, off, cap, e, h, hl⟩
  · exact .inl h
  · exact .inr ⟨b, off, cap, e, h.later hb hl, Nat.lt_of_lt_of_le hl hb.size⟩
/-- A row that a call made. -/
def OwX (e : TypeId) (w : World) (base : Nat) (v : Value) (ls : List α) : Prop := w.ownsRow base e (Row.k α) v ls.length (rcells ls)
theorem OwX.nil (e : TypeId) (w : World) (base : Nat) : OwX e w base (.slice none 0 0) ([] : List α) := World.ownsRow_nil w base e _
theorem OwX.later {e : TypeId} {w w' : World} {base : Nat} {v : Value} {ls : List α} (h : OwX e w base v ls) (hb : Below w.heap.size w w') : OwX e w' base v ls := by
  obtain ⟨h1, h2⟩ := h
  refine ⟨h1, ?_⟩
  rcases h2 with h2 | ⟨g, cap, cur, e1, e2, e3, e4⟩
  · exact .inl h2
  · exact .inr ⟨g, cap, cur, e1, e2, by rw [hb.block g (Array.getElem?_eq_some_iff.1 e3).1]; exact e3, e4⟩
theorem OwX.base {e : TypeId} {w : World} {b b' : Nat} {v : Value} {ls : List α} (h : OwX e w b v ls) (hb : b' ≤ b) : OwX e w b' v ls := by
  obtain ⟨h1, h2⟩ := h
  refine ⟨h1, ?_⟩
  rcases h2 with h2 | ⟨g, cap, cur, e1, e2, e3⟩
  · exact .inl h2
  · exact .inr ⟨g, cap, cur, e1, Nat.le_trans hb e2, e3⟩
theorem OwX.sl {e : TypeId} {w : World} {base : Nat} {v : Value} {ls : List α} (h : OwX e w base v ls) : SlX w v ls := by
  obtain ⟨h1, h2⟩ := h
  rcases h2 with ⟨rfl, h2⟩ | ⟨g, cap, cur, rfl, e2, e3, e4, e5, e6, e7⟩
  · exact .inl ⟨none, 0, rfl, List.length_eq_zero_iff.1 h2⟩
  · refine .inr ⟨g, 0, cap, rfl, fun i hi j hj => ?_, (Array.getElem?_eq_some_iff.1 e3).1⟩
    rw [Nat.zero_add, cell_of_row w g _ _ _ _ e3]
    have hlt : i * Row.k α + j < ls.length * Row.k α := by
      have := Nat.mul_le_mul_right (Row.k α) (show i + 1 ≤ ls.length from hi)
      rw [Nat.succ_mul] at this; omega
    have : (cur.toList.take (ls.length * Row.k α))[i * Row.k α + j]? = (rcells ls)[i * Row.k α + j]? := by rw [e7]
    rw [List.getElem?_take, if_pos hlt, rcells_at ls i hi j hj] at this
    rw [← this]
    simp
theorem RX.lit (w : World) (ls : List α) (t : TypeId) : RX (w.alloc (.cells (rcells ls).toArray t)) w.heap.size 0 ls := fun i hi j hj => by
  rw [Nat.zero_add, cell_of_row _ _ _ _ _ _ (heap_alloc_new w _), ← rcells_at ls i hi j hj]
  simp
/-- Part of a row. -/
theorem RX.drop {w : World} {b off : Nat} {ls : List α} (h : RX w b off ls) (k : Nat) : RX w b (off + k * Row.k α) (ls.drop k) := fun i hi j hj => by
  rw [List.length_drop] at hi
  have := h (k + i) (by omega) j hj
  rw [Nat.add_mul, ← Nat.add_assoc] at this
  rw [this, List.getElem_drop]
theorem RX.take {w : World} {b off : Nat} {ls : List α} (h : RX w b off ls) (k : Nat) : RX w b off (ls.take k) := fun i hi j hj => by
  rw [List.length_take] at hi
  have := h i (by omega) j hj
  rw [this, List.getElem_take]
/-- The elements of a slice, as cells. -/
theorem RX.cells {w : World} {b off : Nat} {ls : List α} (h : RX w b off ls) : ∀ j u, (rcells ls)[j]? = some u → w.cell? ⟨b, off + j, none⟩ = some u := by
  intro j u hu
  have hl := (List.getElem?_eq_some_iff.1 hu).1
  rw [rcells_len] at hl
  have hk := Row.pos (α := α)
  have hi : j / Row.k α < ls.length := (Nat.div_lt_iff_lt_mul hk).2 hl
  have hj : j % Row.k α < Row.k α := Nat.mod_lt _ hk
  have e : j / Row.k α * Row.k α + j % Row.k α = j := by rw [Nat.mul_comm]; exact Nat.div_add_mod _ _
  have h1 := rcells_at ls (j / Row.k α) hi (j % Row.k α) hj
  have h2 := h (j / Row.k α) hi (j % Row.k α) hj
  rw [e] at h1
  rw [Nat.add_assoc, e] at h2
  rw [h2, ← h1, hu]
theorem run_copy_rowK {P : Program} (w : World) (dT sT ty elem : TypeId) (g o dLen dCap : Nat) (a : Addr) (sLen sCap : Nat) (cur : Array Value) (t : TypeId) (cs : List Value) (k n : Nat)
    (hu : P.underlying dT = some (.slice elem)) (hs : (P.info? elem).map (·.size) = some k)
    (hg : w.heap[g]? = some (.cells cur t (0, 0))) (hn : n = Nat.min sLen dLen) (hcs : cs.length = n * k)
    (hsrc : ∀ j v, cs[j]? = some v → w.cell? (a.add j) = some v) (hfit : o + cs.length ≤ cur.size) (h1 : ∀ v ∈ cs, v.oneCell' = true) :
    (Builtin.copy_ #[dT, sT] ty #[.slice (some ⟨g, o, none⟩) dLen dCap, .slice (some a) sLen sCap]).run P w =
      .ok (goInt n) (w.setRow g (cur.toList.take o ++ cs ++ cur.toList.drop (o + cs.length)).toArray) := by
  have hl := run_loadCells_list (P := P) w a cs hsrc
  have hst := run_storeCells_at P g o t cs 0 cur w hg (by simpa using hfit) h1
  rw [hcs] at hl
  cases hq : P.info? elem with
  | none => simp [hq] at hs
  | some i =>
    have hi : i.size = k := by simpa [hq] using hs
    simp [Builtin.copy_, run_underlying hu, Builtin.lenOf, Builtin.firstCells, sizeOf, typeInfo, hq, hi, ← hn, hl, hst]
end
theorem SlX.cases {α : Type} [Row α] {w : World} {v : Value} {ls : List α} (S : SlX w v ls) (Q : Prop) (h1 : ∀ a cap, v = .slice a 0 cap → ls = [] → Q)
    (h2 : ∀ b off cap, v = .slice (some ⟨b, off, none⟩) ls.length cap → 0 < ls.length → RX w b off ls → b < w.heap.size → Q) : Q := by
  rcases S with ⟨a, cap, e1, e2⟩ | ⟨b, off, cap, e1, hR, hb⟩
  · exact h1 a cap e1 e2
  · cases ls with
    | nil => exact h1 _ _ e1 rfl
    | cons x t => exact h2 b off cap e1 (by simp) hR hb
end Go.Proofs.Wk
/- ROWS OF CELLS: a row into which one element is put. -/
namespace Go.Proofs.Wk
open Go.RowKit Mt

theorem Below.row {B : Nat} {a w : World} (h : Below B a w) {g : Nat} (hg : B ≤ g) (cs : Array Value) : Below B a (w.setRow g cs) :=
  ⟨h.os, h.tape, h.output, by simpa using h.size, fun k hk => by rw [setRow_other w g k cs (by omega)]; exact h.block k hk⟩
section
variable {α : Type} [Row α]
/-- A row whose first cells are those of a list is owned. -/
theorem OwX.mk {e : TypeId} {w : World} {base g cap : Nat} {cur : Array Value} {ls : List α} (hb : base ≤ g) (hg : w.heap[g]? = some (.cells cur e (0, 0))) (hn : ls.length ≤ cap) (hc : cap ≤ maxLen) (hs : cur.size = cap * Row.k α)
    (ht : ∃ r, cur.toList = rcells ls ++ r) : OwX e w base (.slice (some ⟨g, 0, none⟩) ls.length cap) ls := by
  refine ⟨rcells_len ls, .inr ⟨g, cap, cur, rfl, hb, hg, hn, hc, hs, ?_⟩⟩
  obtain ⟨r, hr⟩ := ht
  rw [hr, ← rcells_len ls]; exact List.take_left
/-- The elements of a slice that was handed in: what an append reads. -/
theorem RX.src {w : World} {b off : Nat} {ls : List α} (h : RX w b off ls) : ∀ j u, (rcells ls)[j]? = some u → w.cell? ((⟨b, off, none⟩ : Addr).add j) = some u := fun j u hu => by
  rw [Addr.add_lit]; exact h.cells j u hu
end
end Go.Proofs.Wk
/- ROWS OF CELLS: appends and copies of whole rows. -/
namespace Go.Proofs.Wk
open Go.RowKit Mt
variable {P : Program}

/-- A copy's run, for the walk. -/
theorem wp_cpy_run (w : World) {o : Oper} {a : Act} {K : Act → World → Prop} {Q : Exit → Act → World → Prop} (d s : Operand) (t t' : TypeId)
    (ho : o.op = .call { callee := .builtin .copy, args := #[d, s], argTypes := #[t, t'] }) (v u : Value) (hd : a.eval d = v) (hs : a.eval s = u) {v' : Value} {w' : World}
    (hr : (Builtin.copy_ #[t, t'] o.type #[v, u]).run P w = .ok v' w') (h : K (a.put o.dst v') w') : o.wp P a w K Q := by
  unfold Oper.wp execOp
  simp only [ho, resolve, invoke, builtin, Sem.run_bind, Sem.run_pure, Result.andThen_ok, List.map_toArray, List.map_cons, List.map_nil, hd, hs, hr]
  exact h
theorem wpList_cpy_run (w : World) {ops : Array Oper} {rest : List Oper} {o : Oper} {a : Act} {Q : Exit → Act → World → Prop} (hgd : o.guard = none) (d s : Operand) (t t' : TypeId)
    (ho : o.op = .call { callee := .builtin .copy, args := #[d, s], argTypes := #[t, t'] }) (v u : Value) (hd : a.eval d = v) (hs : a.eval s = u) {v' : Value} {w' : World}
    (hr : (Builtin.copy_ #[t, t'] o.type #[v, u]).run P w = .ok v' w') (h : wpList P ops Q rest (a.put o.dst v') w') : wpList P ops Q (o :: rest) a w :=
  wpList_plain hgd fun _ hK => wp_cpy_run w d s t t' ho v u hd hs hr (hK _ _ h)
theorem step_cpy_run {ops : Array Oper} {o : Oper} {a : Act} {w : World} {K : Act → World → Prop} {Q : Exit → Act → World → Prop} {E : Prop}
    (hg : o.guard = none) (d x : Operand) (dT sT : TypeId) (hop : o.op = Op.call { callee := Callee.builtin Builtin.copy, args := #[d, x], argTypes := #[dT, sT] })
    (v u : Value) (hd : a.eval d = v) (hx : a.eval x = u) {v' : Value} {w' : World} (hr : (Builtin.copy_ #[dT, sT] o.type #[v, u]).run P w = .ok v' w') (hK : K (a.put o.dst v') w') :
    if Region.wanted o (yielded ops a.tmps) = true then Oper.wp P o a w K Q else E := by
  have hw : Region.wanted o (yielded ops a.tmps) = true := by simp [Region.wanted, hg]
  rw [if_pos hw]
  exact wp_cpy_run w d x dT sT hop v u hd hx hr hK
section
variable {α : Type} [Row α]
/-- What a clone yields: nothing, or a row of its own. -/
def CnX (e : TypeId) (w : World) (base : Nat) (v : Value) (ls : List α) : Prop := (ls = [] ∧ ∃ a, v = .slice a 0 0) ∨ OwX e w base v ls
theorem CnX.later {e : TypeId} {w w' : World} {base : Nat} {v : Value} {ls : List α} (h : CnX e w base v ls) (hb : Below w.heap.size w w') : CnX e w' base v ls := by
  rcases h with h | h
  · exact .inl h
  · exact .inr (h.later hb)
theorem CnX.sl {e : TypeId} {w : World} {base : Nat} {v : Value} {ls : List α} (h : CnX e w base v ls) : SlX w v ls := by
  rcases h with ⟨rfl, a, rfl⟩ | h
  · exact .inl ⟨a, 0, rfl, rfl⟩
  · exact h.sl
end
end Go.Proofs.Wk
