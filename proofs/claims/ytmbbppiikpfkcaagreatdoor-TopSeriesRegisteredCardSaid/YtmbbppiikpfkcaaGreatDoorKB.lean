/- ROWS OF CELLS: SLICES OF STRUCTS. -/
import Derived.Test.YtmbbppiikpfkcaaGreatDoorGL
import Derived.Laws.CopyOwn
import Derived.Lib.Overlaps
import Derived.Lib.AppendZerosOnto
import Derived.Deep.AppendSrc
namespace Go.Proofs.Wk
open Go.RowKit Mt

/-- A type whose values lie as k cells. -/
class Row (α : Type) where
  enc : α → List Value
  k : Nat
  len : ∀ a, (enc a).length = k
  pos : 0 < k
  one : ∀ a, ∀ u ∈ enc a, u.oneCell' = true
section
variable {α : Type} [Row α]
def rcells (ls : List α) : List Value := ls.flatMap Row.enc
theorem rcells_cons (a : α) (ls : List α) : rcells (a :: ls) = Row.enc a ++ rcells ls := rfl
theorem rcells_app (a b : List α) : rcells (a ++ b) = rcells a ++ rcells b := by unfold rcells; rw [List.flatMap_append]
theorem rcells_one (a : α) : rcells [a] = Row.enc a := by simp [rcells]
theorem rcells_len : ∀ ls : List α, (rcells ls).length = ls.length * Row.k α
  | [] => by simp [rcells]
  | a :: t => by rw [rcells_cons, List.length_append, rcells_len t, Row.len, List.length_cons, Nat.succ_mul, Nat.add_comm]
theorem rcells_at : ∀ (ls : List α) (i : Nat) (h : i < ls.length) (j : Nat), j < Row.k α → (rcells ls)[i * Row.k α + j]? = (Row.enc ls[i])[j]?
  | a :: t, 0, _, j, hj => by
    rw [rcells_cons, Nat.zero_mul, Nat.zero_add, List.getElem?_append_left (by rw [Row.len]; exact hj)]; rfl
  | a :: t, i + 1, h, j, hj => by
    rw [rcells_cons, List.getElem?_append_right (by rw [Row.len, Nat.succ_mul]; omega), Row.len, show (i + 1) * Row.k α + j - Row.k α = i * Row.k α + j by rw [Nat.succ_mul]; omega]
    exact rcells_at t i (by simpa using h) j hj
/-- A row in memory. -/
def RX (w : World) (b off : Nat) (ls : List α) : Prop := ∀ i (h : i < ls.length) j, j < Row.k α → w.cell? ⟨b, off + i * Row.k α + j, none⟩ = (Row.enc ls[i])[j]?
theorem RX.later {w w' : World} {B b off : Nat} {ls : List α} (h : RX w b off ls) (hb : Below B w w') (hlt : b < B) : RX w' b off ls := fun i hi j hj => by
  rw [hb.cell (p := ⟨b, off + i * Row.k α + j, none⟩) hlt]; exact h i hi j hj
/-- A slice of rows. -/
def SlX (w : World) (v : Value) (ls : List α) : Prop :=
  (∃ a cap, v = .slice a 0 cap ∧ ls = []) ∨ ∃ b off cap, v = .slice (some ⟨b, off, none⟩) ls.length cap ∧ RX w b off ls ∧ b < w.heap.size
theorem SlX.later {w w' : World} {v : Value} {ls : List α} (h : SlX w v ls) (hb : Below w.heap.size w w') : SlX w' v ls := by
  rcases h with h | ⟨b, off, cap, e, h, hl⟩
  · exact .inl h
  · exact .inr ⟨b, off, cap, e, h.later hb hl, Nat.lt_of_lt_of_le hl hb.size⟩
/-- A row that a call made. -/
def OwX (e : TypeId) (w : World) (base : Nat) (v : Value) (ls : List α) : Prop := w.ownsRow base e (Row.k α) v ls.length (rcells ls)
theorem OwX.nil (e : TypeId) (w : World) (base : Nat) : OwX e w base (.slice none 0 0) ([] : List α) := World.ownsRow_nil w base e _
theorem OwX.later {e : TypeId} {w w' : World} {base : Nat} {v : Value} {ls : List α} (h : OwX e w base v ls) (hb : Below w.heap.size w w') : OwX e w' base v ls := by
  obtain ⟨h1, h2⟩ := h
  refine ⟨h1, ?_⟩
  rcases h2 with h2 | ⟨g, cap, cur, e1, e2, e3, e4⟩
  · exact .inl h2
  · exact .inr ⟨g, cap, cur, e1, e2, by rw [hb.block g (Array.getElem?_eq_some_iff.1 e3).1]; exact e3, e4⟩
theorem OwX.base {e : TypeId} {w : World} {b b' : Nat} {v : Value} {ls : List α} (h : OwX e w b v ls) (hb : b' ≤ b) : OwX e w b' v ls := by
  obtain ⟨h1, h2⟩ := h
  refine ⟨h1, ?_⟩
  rcases h2 with h2 | ⟨g, cap, cur, e1, e2, e3⟩
  · exact .inl h2
  · exact .inr ⟨g, cap, cur, e1, Nat.le_trans hb e2, e3⟩
theorem OwX.sl {e : TypeId} {w : World} {base : Nat} {v : Value} {ls : List α} (h : OwX e w base v ls) : SlX w v ls := by
  obtain ⟨h1, h2⟩ := h
  rcases h2 with ⟨rfl, h2⟩ | ⟨g, cap, cur, rfl, e2, e3, e4, e5, e6, e7⟩
  · exact .inl ⟨none, 0, rfl, List.length_eq_zero_iff.1 h2⟩
  · refine .inr ⟨g, 0, cap, rfl, fun i hi j hj => ?_, (Array.getElem?_eq_some_iff.1 e3).1⟩
    rw [Nat.zero_add, cell_of_row w g _ _ _ _ e3]
    have hlt : i * Row.k α + j < ls.length * Row.k α := by
      have := Nat.mul_le_mul_right (Row.k α) (show i + 1 ≤ ls.length from hi)
      rw [Nat.succ_mul] at this; omega
    have : (cur.toList.take (ls.length * Row.k α))[i * Row.k α + j]? = (rcells ls)[i * Row.k α + j]? := by rw [e7]
    rw [List.getElem?_take, if_pos hlt, rcells_at ls i hi j hj] at this
    rw [← this]
    simp
theorem wpList_app_row {P : Program} {w : World} {ops : Array Oper} {rest : List Oper} {o : Oper} {a : Act} {Q : Exit → Act → World → Prop} (hgd : o.guard = none) (s x : Operand) (t e : TypeId)
    (ho : o.op = .call { callee := .builtin .append, args := #[s, x], argTypes := #[t, t] }) (ht : P.underlying t = some (.slice e)) (z : Value) (by_ : Nat) (hby : 1 ≤ by_)
    (hi : (P.info? e).map (fun i => (i.zero, i.size, i.bytes)) = some (some z, Row.k α, by_)) (hz : z.cells.size = Row.k α) (base : Nat) (v : Value) (ls : List α) (hs : a.eval s = v) (hown : OwX e w base v ls)
    (b : Nat) (l : α) (hx : a.eval x = .slice (some ⟨b, 0, none⟩) 1 1) (hc : ∀ j, j < Row.k α → w.cell? ⟨b, j, none⟩ = (Row.enc l)[j]?) (hn : (ls.length + 1) * by_ ≤ 140737488355328) (hbase : base ≤ w.heap.size)
    (h : ∀ v' w', OwX e w' base v' (ls ++ [l]) → Below base w w' → wpList P ops Q rest (a.put o.dst v') w') : wpList P ops Q (o :: rest) a w := by
  obtain ⟨i0, hi0, hz0, hz1, hz2⟩ := info_parts hi
  refine wpList_append_own w hgd s x t ho base e i0 z (Row.k α) by_ ht hi0 hz0 hz1 hz2 hz Row.pos v ls.length (rcells ls) hs hown ⟨b, 0, none⟩ 1 1 (Row.enc l) hx (by rw [Row.len, Nat.one_mul]) ?_ (Row.one l) ?_ ?_ hbase ?_
  · intro j u hu
    have hj : j < Row.k α := by rw [← Row.len l]; exact (List.getElem?_eq_some_iff.1 hu).1
    rw [show (⟨b, 0, none⟩ : Addr).add j = ⟨b, j, none⟩ by (simp [Addr.add]; try (intro e; exact e.symm)), hc j hj, hu]
  · have := Nat.le_mul_of_pos_right (ls.length + 1) hby
    unfold maxLen; omega
  · exact hn
  · intro v' w' h1 h2 _
    refine h v' w' ?_ ?_
    · unfold OwX
      rw [List.length_append, rcells_app, rcells_one]
      exact h1
    · refine ⟨h2.os, h2.tape, h2.output, h2.size, fun k hk => h2.block k (by omega) ?_⟩
      intro e1
      have := (World.ownsRow.lt hown k e1.symm).1
      omega
/-- The same for a region that draws its order. -/
theorem step_app_row {P : Program} (w : World) {ops : Array Oper} {o : Oper} {a : Act} {K : Act → World → Prop} {Q : Exit → Act → World → Prop} {E : Prop} (hgd : o.guard = none) (s x : Operand) (t e : TypeId)
    (ho : o.op = .call { callee := .builtin .append, args := #[s, x], argTypes := #[t, t] }) (ht : P.underlying t = some (.slice e)) (z : Value) (by_ : Nat) (hby : 1 ≤ by_)
    (hi : (P.info? e).map (fun i => (i.zero, i.size, i.bytes)) = some (some z, Row.k α, by_)) (hz : z.cells.size = Row.k α) (base : Nat) (v : Value) (ls : List α) (hs : a.eval s = v) (hown : OwX e w base v ls)
    (b : Nat) (l : α) (hx : a.eval x = .slice (some ⟨b, 0, none⟩) 1 1) (hc : ∀ j, j < Row.k α → w.cell? ⟨b, j, none⟩ = (Row.enc l)[j]?) (hn : (ls.length + 1) * by_ ≤ 140737488355328) (hbase : base ≤ w.heap.size)
    (h : ∀ g cap w', OwX e w' base (.slice (some ⟨g, 0, none⟩) (ls.length + 1) cap) (ls ++ [l]) → Below base w w' → K (a.put o.dst (.slice (some ⟨g, 0, none⟩) (ls.length + 1) cap)) w') :
    if Region.wanted o (yielded ops a.tmps) = true then Oper.wp P o a w K Q else E := by
  obtain ⟨i0, hi0, hz0, hz1, hz2⟩ := info_parts hi
  refine step_append_lies w hgd s x t ho base e i0 z (Row.k α) by_ ht hi0 hz0 hz1 hz2 hz Row.pos v ls.length (rcells ls) hs hown ⟨b, 0, none⟩ 1 1 (Row.enc l) hx (by rw [Row.len, Nat.one_mul]) ?_ (Row.one l) (by decide) ?_ ?_ hbase _ rfl ?_
  · intro j u hu
    have hj : j < Row.k α := by rw [← Row.len l]; exact (List.getElem?_eq_some_iff.1 hu).1
    rw [show (⟨b, 0, none⟩ : Addr).add j = ⟨b, j, none⟩ by (simp [Addr.add]; try (intro e; exact e.symm)), hc j hj, hu]
  · have := Nat.le_mul_of_pos_right (ls.length + 1) hby
    unfold maxLen; omega
  · exact hn
  · intro g cap w' h1 h2 _ _
    refine h g cap w' ?_ ?_
    · unfold OwX
      rw [List.length_append, rcells_app, rcells_one]
      exact h1
    · refine ⟨h2.os, h2.tape, h2.output, h2.size, fun k hk => h2.block k (by omega) ?_⟩
      intro e1
      have := (World.ownsRow.lt hown k e1.symm).1
      omega
theorem RX.lit (w : World) (ls : List α) (t : TypeId) : RX (w.alloc (.cells (rcells ls).toArray t)) w.heap.size 0 ls := fun i hi j hj => by
  rw [Nat.zero_add, cell_of_row _ _ _ _ _ _ (heap_alloc_new w _), ← rcells_at ls i hi j hj]
  simp
/-- Part of a row. -/
theorem RX.drop {w : World} {b off : Nat} {ls : List α} (h : RX w b off ls) (k : Nat) : RX w b (off + k * Row.k α) (ls.drop k) := fun i hi j hj => by
  rw [List.length_drop] at hi
  have := h (k + i) (by omega) j hj
  rw [Nat.add_mul, ← Nat.add_assoc] at this
  rw [this, List.getElem_drop]
theorem RX.take {w : World} {b off : Nat} {ls : List α} (h : RX w b off ls) (k : Nat) : RX w b off (ls.take k) := fun i hi j hj => by
  rw [List.length_take] at hi
  have := h i (by omega) j hj
  rw [this, List.getElem_take]
/-- The elements of a slice, as cells. -/
theorem RX.cells {w : World} {b off : Nat} {ls : List α} (h : RX w b off ls) : ∀ j u, (rcells ls)[j]? = some u → w.cell? ⟨b, off + j, none⟩ = some u := by
  intro j u hu
  have hl := (List.getElem?_eq_some_iff.1 hu).1
  rw [rcells_len] at hl
  have hk := Row.pos (α := α)
  have hi : j / Row.k α < ls.length := (Nat.div_lt_iff_lt_mul hk).2 hl
  have hj : j % Row.k α < Row.k α := Nat.mod_lt _ hk
  have e : j / Row.k α * Row.k α + j % Row.k α = j := by rw [Nat.mul_comm]; exact Nat.div_add_mod _ _
  have h1 := rcells_at ls (j / Row.k α) hi (j % Row.k α) hj
  have h2 := h (j / Row.k α) hi (j % Row.k α) hj
  rw [e] at h1
  rw [Nat.add_assoc, e] at h2
  rw [h2, ← h1, hu]
theorem run_copy_rowK {P : Program} (w : World) (dT sT ty elem : TypeId) (g o dLen dCap : Nat) (a : Addr) (sLen sCap : Nat) (cur : Array Value) (t : TypeId) (cs : List Value) (k n : Nat)
    (hu : P.underlying dT = some (.slice elem)) (hs : (P.info? elem).map (·.size) = some k)
    (hg : w.heap[g]? = some (.cells cur t (0, 0))) (hn : n = Nat.min sLen dLen) (hcs : cs.length = n * k)
    (hsrc : ∀ j v, cs[j]? = some v → w.cell? (a.add j) = some v) (hfit : o + cs.length ≤ cur.size) (h1 : ∀ v ∈ cs, v.oneCell' = true) :
    (Builtin.copy_ #[dT, sT] ty #[.slice (some ⟨g, o, none⟩) dLen dCap, .slice (some a) sLen sCap]).run P w =
      .ok (goInt n) (w.setRow g (cur.toList.take o ++ cs ++ cur.toList.drop (o + cs.length)).toArray) := by
  have hl := run_loadCells_list (P := P) w a cs hsrc
  have hst := run_storeCells_at P g o t cs 0 cur w hg (by simpa using hfit) h1
  rw [hcs] at hl
  cases hq : P.info? elem with
  | none => simp [hq] at hs
  | some i =>
    have hi : i.size = k := by simpa [hq] using hs
    simp [Builtin.copy_, run_underlying hu, Builtin.lenOf, Builtin.firstCells, sizeOf, typeInfo, hq, hi, ← hn, hl, hst]
end
theorem SlX.cases {α : Type} [Row α] {w : World} {v : Value} {ls : List α} (S : SlX w v ls) (Q : Prop) (h1 : ∀ a cap, v = .slice a 0 cap → ls = [] → Q)
    (h2 : ∀ b off cap, v = .slice (some ⟨b, off, none⟩) ls.length cap → 0 < ls.length → RX w b off ls → b < w.heap.size → Q) : Q := by
  rcases S with ⟨a, cap, e1, e2⟩ | ⟨b, off, cap, e1, hR, hb⟩
  · exact h1 a cap e1 e2
  · cases ls with
    | nil => exact h1 _ _ e1 rfl
    | cons x t => exact h2 b off cap e1 (by simp) hR hb
end Go.Proofs.Wk
/- ROWS OF CELLS: a row into which one element is put. -/
namespace Go.Proofs.Wk
open Go.RowKit Mt

theorem Below.row {B : Nat} {a w : World} (h : Below B a w) {g : Nat} (hg : B ≤ g) (cs : Array Value) : Below B a (w.setRow g cs) :=
  ⟨h.os, h.tape, h.output, by simpa using h.size, fun k hk => by rw [setRow_other w g k cs (by omega)]; exact h.block k hk⟩
section
variable {α : Type} [Row α]
theorem rcells_split (ls : List α) (i : Nat) : rcells ls = rcells (ls.take i) ++ rcells (ls.drop i) := by rw [← rcells_app, List.take_append_drop]
theorem rcells_tl (ls : List α) {i : Nat} (h : i ≤ ls.length) : (rcells (ls.take i)).length = i * Row.k α := by rw [rcells_len, List.length_take, Nat.min_eq_left h]
theorem rcells_dl (ls : List α) (i : Nat) : (rcells (ls.drop i)).length = (ls.length - i) * Row.k α := by rw [rcells_len, List.length_drop]
theorem rcells_take (ls : List α) {i : Nat} (h : i ≤ ls.length) : (rcells ls).take (i * Row.k α) = rcells (ls.take i) := by
  rw [rcells_split ls i, ← rcells_tl ls h, List.take_left]
theorem take3 (A B C D : List Value) : (A ++ B ++ C ++ D).take (A.length + B.length + C.length) = A ++ B ++ C := by
  rw [show A.length + B.length + C.length = (A ++ B ++ C).length by simp [Nat.add_assoc]]; exact List.take_left
/-- One element is put into a row that has room: what stood from i on is moved up, then the element is laid. -/
theorem shift_row {cur : List Value} {ls : List α} (l : α) {i : Nat} (hi : i ≤ ls.length) (hc : (ls.length + 1) * Row.k α ≤ cur.length) (ht : cur.take (ls.length * Row.k α) = rcells ls) {row : List Value}
    (hr : row = cur.take ((i + 1) * Row.k α) ++ rcells (ls.drop i) ++ cur.drop ((i + 1) * Row.k α + (rcells (ls.drop i)).length)) :
    row.take (i * Row.k α) ++ Row.enc l ++ row.drop (i * Row.k α + (Row.enc l).length) = rcells (ls.take i) ++ Row.enc l ++ rcells (ls.drop i) ++ cur.drop ((ls.length + 1) * Row.k α) := by
  have h1 : (cur.take ((i + 1) * Row.k α)).length = (i + 1) * Row.k α := by
    have := Nat.mul_le_mul_right (Row.k α) (show i + 1 ≤ ls.length + 1 by omega)
    rw [List.length_take]; omega
  have h2 : (i + 1) * Row.k α + (ls.length - i) * Row.k α = (ls.length + 1) * Row.k α := by rw [← Nat.add_mul]; congr 1; omega
  have h3 : i * Row.k α + Row.k α = (i + 1) * Row.k α := (Nat.succ_mul _ _).symm
  have h4 : row.take (i * Row.k α) = rcells (ls.take i) := by
    rw [hr, List.append_assoc, List.take_append_of_le_length (by rw [h1, ← h3]; omega), List.take_take, Nat.min_eq_left (by rw [← h3]; omega), ← rcells_take ls hi, ← ht, List.take_take,
      Nat.min_eq_left (Nat.mul_le_mul_right _ hi)]
  have h5 : row.drop (i * Row.k α + (Row.enc l).length) = rcells (ls.drop i) ++ cur.drop ((ls.length + 1) * Row.k α) := by
    rw [Row.len, h3, hr, rcells_dl, h2, List.append_assoc, List.drop_append, List.drop_of_length_le (by rw [h1]; exact Nat.le_refl _), h1, Nat.sub_self, List.drop_zero, List.nil_append]
  rw [h4, h5, List.append_assoc, List.append_assoc, List.append_assoc]
/-- The same where the row is made anew. -/
theorem grow_row {ls : List α} (l : α) {i : Nat} (hi : i ≤ ls.length) {z row : List Value}
    (hr : row = (rcells (ls.take i) ++ z).take (i * Row.k α) ++ Row.enc l ++ (rcells (ls.take i) ++ z).drop (i * Row.k α + (Row.enc l).length)) :
    row.take ((i + 1) * Row.k α) ++ rcells (ls.drop i) ++ row.drop ((i + 1) * Row.k α + (rcells (ls.drop i)).length) = rcells (ls.take i) ++ Row.enc l ++ rcells (ls.drop i) ++ z.drop ((ls.length + 1 - i) * Row.k α) := by
  have h2 : (i + 1) * Row.k α + (ls.length - i) * Row.k α = (ls.length + 1) * Row.k α := by rw [← Nat.add_mul]; congr 1; omega
  have h3 : i * Row.k α + Row.k α = (i + 1) * Row.k α := (Nat.succ_mul _ _).symm
  have h6 : (ls.length + 1 - i) * Row.k α = Row.k α + (ls.length - i) * Row.k α := by rw [show ls.length + 1 - i = 1 + (ls.length - i) by omega, Nat.add_mul, Nat.one_mul]
  have e1 : (rcells (ls.take i) ++ z).take (i * Row.k α) = rcells (ls.take i) := by rw [← rcells_tl ls hi]; exact List.take_left
  have e2 : (rcells (ls.take i) ++ z).drop (i * Row.k α + (Row.enc l).length) = z.drop (Row.k α) := by
    rw [Row.len, List.drop_append, List.drop_of_length_le (by rw [rcells_tl ls hi]; omega), rcells_tl ls hi, Nat.add_sub_cancel_left, List.nil_append]
  rw [e1, e2] at hr
  have h7 : (rcells (ls.take i) ++ Row.enc l).length = (i + 1) * Row.k α := by rw [List.length_append, rcells_tl ls hi, Row.len, h3]
  have e3 : row.take ((i + 1) * Row.k α) = rcells (ls.take i) ++ Row.enc l := by rw [hr, ← h7]; exact List.take_left
  have e4 : row.drop ((i + 1) * Row.k α + (rcells (ls.drop i)).length) = z.drop ((ls.length + 1 - i) * Row.k α) := by
    rw [hr, rcells_dl, List.drop_append, List.drop_of_length_le (by rw [h7]; omega), h7, Nat.add_sub_cancel_left, List.nil_append, List.drop_drop, h6]
  rw [e3, e4]
theorem ins_cells (ls : List α) (l : α) (i : Nat) : rcells (ls.take i ++ l :: ls.drop i) = rcells (ls.take i) ++ Row.enc l ++ rcells (ls.drop i) := by
  rw [rcells_app, rcells_cons, List.append_assoc]
omit [Row α] in
theorem ins_len (ls : List α) (l : α) {i : Nat} (hi : i ≤ ls.length) : (ls.take i ++ l :: ls.drop i).length = ls.length + 1 := by
  rw [List.length_append, List.length_take, List.length_cons, List.length_drop]; omega
/-- A row whose first cells are those of a list is owned. -/
theorem OwX.mk {e : TypeId} {w : World} {base g cap : Nat} {cur : Array Value} {ls : List α} (hb : base ≤ g) (hg : w.heap[g]? = some (.cells cur e (0, 0))) (hn : ls.length ≤ cap) (hc : cap ≤ maxLen) (hs : cur.size = cap * Row.k α)
    (ht : ∃ r, cur.toList = rcells ls ++ r) : OwX e w base (.slice (some ⟨g, 0, none⟩) ls.length cap) ls := by
  refine ⟨rcells_len ls, .inr ⟨g, cap, cur, rfl, hb, hg, hn, hc, hs, ?_⟩⟩
  obtain ⟨r, hr⟩ := ht
  rw [hr, ← rcells_len ls]; exact List.take_left
/-- The elements of a slice that was handed in: what an append reads. -/
theorem RX.src {w : World} {b off : Nat} {ls : List α} (h : RX w b off ls) : ∀ j u, (rcells ls)[j]? = some u → w.cell? ((⟨b, off, none⟩ : Addr).add j) = some u := fun j u hu => by
  rw [Addr.add_lit]; exact h.cells j u hu
end
end Go.Proofs.Wk
/- ROWS OF CELLS: appends and copies of whole rows. -/
namespace Go.Proofs.Wk
open Go.RowKit Mt
variable {P : Program}

/-- A copy's run, for the walk. -/
theorem wp_cpy_run (w : World) {o : Oper} {a : Act} {K : Act → World → Prop} {Q : Exit → Act → World → Prop} (d s : Operand) (t t' : TypeId)
    (ho : o.op = .call { callee := .builtin .copy, args := #[d, s], argTypes := #[t, t'] }) (v u : Value) (hd : a.eval d = v) (hs : a.eval s = u) {v' : Value} {w' : World}
    (hr : (Builtin.copy_ #[t, t'] o.type #[v, u]).run P w = .ok v' w') (h : K (a.put o.dst v') w') : o.wp P a w K Q := by
  unfold Oper.wp execOp
  simp only [ho, resolve, invoke, builtin, Sem.run_bind, Sem.run_pure, Result.andThen_ok, List.map_toArray, List.map_cons, List.map_nil, hd, hs, hr]
  exact h
theorem wpList_cpy_run (w : World) {ops : Array Oper} {rest : List Oper} {o : Oper} {a : Act} {Q : Exit → Act → World → Prop} (hgd : o.guard = none) (d s : Operand) (t t' : TypeId)
    (ho : o.op = .call { callee := .builtin .copy, args := #[d, s], argTypes := #[t, t'] }) (v u : Value) (hd : a.eval d = v) (hs : a.eval s = u) {v' : Value} {w' : World}
    (hr : (Builtin.copy_ #[t, t'] o.type #[v, u]).run P w = .ok v' w') (h : wpList P ops Q rest (a.put o.dst v') w') : wpList P ops Q (o :: rest) a w :=
  wpList_plain hgd fun _ hK => wp_cpy_run w d s t t' ho v u hd hs hr (hK _ _ h)
theorem step_cpy_run {ops : Array Oper} {o : Oper} {a : Act} {w : World} {K : Act → World → Prop} {Q : Exit → Act → World → Prop} {E : Prop}
    (hg : o.guard = none) (d x : Operand) (dT sT : TypeId) (hop : o.op = Op.call { callee := Callee.builtin Builtin.copy, args := #[d, x], argTypes := #[dT, sT] })
    (v u : Value) (hd : a.eval d = v) (hx : a.eval x = u) {v' : Value} {w' : World} (hr : (Builtin.copy_ #[dT, sT] o.type #[v, u]).run P w = .ok v' w') (hK : K (a.put o.dst v') w') :
    if Region.wanted o (yielded ops a.tmps) = true then Oper.wp P o a w K Q else E := by
  have hw : Region.wanted o (yielded ops a.tmps) = true := by simp [Region.wanted, hg]
  rw [if_pos hw]
  exact wp_cpy_run w d x dT sT hop v u hd hx hr hK
section
variable {α : Type} [Row α]
theorem RX.of_row {w : World} {g : Nat} {cur : Array Value} {e : TypeId} {fr : Nat × Nat} {ls : List α} (e3 : w.heap[g]? = some (.cells cur e fr)) (e7 : cur.toList.take (ls.length * Row.k α) = rcells ls) : RX w g 0 ls := fun i hi j hj => by
  rw [Nat.zero_add, cell_of_row w g _ _ _ _ e3]
  have hlt : i * Row.k α + j < ls.length * Row.k α := by
    have := Nat.mul_le_mul_right (Row.k α) (show i + 1 ≤ ls.length from hi)
    rw [Nat.succ_mul] at this; omega
  have : (cur.toList.take (ls.length * Row.k α))[i * Row.k α + j]? = (rcells ls)[i * Row.k α + j]? := by rw [e7]
  rw [List.getElem?_take, if_pos hlt, rcells_at ls i hi j hj] at this
  rw [← this]
  simp
/-- What a clone yields: nothing, or a row of its own. -/
def CnX (e : TypeId) (w : World) (base : Nat) (v : Value) (ls : List α) : Prop := (ls = [] ∧ ∃ a, v = .slice a 0 0) ∨ OwX e w base v ls
theorem CnX.later {e : TypeId} {w w' : World} {base : Nat} {v : Value} {ls : List α} (h : CnX e w base v ls) (hb : Below w.heap.size w w') : CnX e w' base v ls := by
  rcases h with h | h
  · exact .inl h
  · exact .inr (h.later hb)
theorem CnX.sl {e : TypeId} {w : World} {base : Nat} {v : Value} {ls : List α} (h : CnX e w base v ls) : SlX w v ls := by
  rcases h with ⟨rfl, a, rfl⟩ | h
  · exact .inl ⟨a, 0, rfl, rfl⟩
  · exact h.sl
theorem below_grw (w : World) {base : Nat} (hb : base ≤ w.heap.size) (o : Obj) : Below base w (w.drew.alloc o) :=
  ⟨rfl, rfl, rfl, by simp, fun k hk => heap_alloc_old w.drew o (show k < w.drew.heap.size by have : w.drew.heap.size = w.heap.size := rfl; omega)⟩
theorem own_grow {e : TypeId} (w : World) {base : Nat} (hb : base ≤ w.heap.size) {z : Value} (hz : z.cells.size = Row.k α) (ls : List α) (G : Nat) (hG : ls.length ≤ G) (hm : G ≤ maxLen) (news : List Value) (hn : news = rcells ls) :
    OwX e (w.drew.alloc (.cells (news.toArray ++ Builtin.zeroCells z.cells (G - ls.length)) e)) base (.slice (some ⟨w.heap.size, 0, none⟩) ls.length G) ls := by
  subst hn
  refine OwX.mk hb (heap_alloc_new w.drew _) hG hm ?_ ⟨(Builtin.zeroCells z.cells (G - ls.length)).toList, by simp⟩
  rw [Array.size_append, List.size_toArray, size_zeroCells, hz, rcells_len, ← Nat.add_mul]
  congr 1; omega
/-- A row is made anew out of another one. -/
theorem run_clone (w : World) (t ty e : TypeId) (z : Value) (by_ : Nat) (hby : 1 ≤ by_) (ht : P.underlying t = some (.slice e)) (hi : (P.info? e).map (fun i => (i.zero, i.size, i.bytes)) = some (some z, Row.k α, by_)) (hz : z.cells.size = Row.k α)
    (v : Value) (ls : List α) (S : SlX w v ls) (hn : ls.length * by_ ≤ 140737488355328) (base : Nat) (hb : base ≤ w.heap.size) (a : Option Addr) :
    ∃ v' w', (Builtin.append_ #[t, t] ty #[.slice a 0 0, v]).run P w = .ok v' w' ∧ CnX e w' base v' ls ∧ Below base w w' := by
  obtain ⟨i0, hi0, hz0, hz1, hz2⟩ := info_parts hi
  have nil : ∀ (x : Option Addr) (cap : Nat), (Builtin.append_ #[t, t] ty #[.slice a 0 0, .slice x 0 cap]).run P w = .ok (.slice a 0 0) w := fun x cap => by
    cases x <;> cases a <;> simp [Builtin.append_, run_underlying ht, sizeOf, typeInfo, hi0, Builtin.lenOf, Builtin.firstCells, loadCells, loadCellsFrom, storeCells]
  rcases S with ⟨x, cap, rfl, rfl⟩ | ⟨b, off, cap, rfl, hR, hlt⟩
  · exact ⟨_, _, nil x cap, .inl ⟨rfl, a, rfl⟩, Below.refl _ _⟩
  · by_cases h0 : ls.length = 0
    · obtain rfl := List.length_eq_zero_iff.1 h0
      exact ⟨_, _, nil _ cap, .inl ⟨rfl, a, rfl⟩, Below.refl _ _⟩
    · have hle := Nat.le_mul_of_pos_right ls.length hby
      have hs := Src.ofSlice (P := P) (size := Row.k α) (tx := t) w ht ⟨b, off, none⟩ ls.length cap (rcells ls) (rcells_len ls) (fun j u hj => hR.src j u hj) (by
        intro u hu
        obtain ⟨x, -, hx⟩ := List.mem_flatMap.1 hu
        exact Row.one x u hx)
      have hr := run_append_grow_src w t t ty e i0 z ht hi0 hz0 a 0 0 [] (by cases a <;> simp [Builtin.firstCells, loadCells, loadCellsFrom]) _ ls.length (rcells ls) (by rw [hz1]; exact hs) (by omega) (by omega)
        (by rw [hz2]; exact growslice_fits (by omega) (by rw [Nat.zero_add]; exact hn))
      simp only [Nat.zero_add, List.nil_append] at hr
      refine ⟨_, _, hr, .inr ?_, below_grw w hb _⟩
      exact own_grow w hb hz ls _ (grownCap_ge _ _ _ _) (grownCap_le_maxLen _ _ _ _ (by unfold maxLen; omega)) _ rfl
/-- One element at the end. -/
theorem run_push (w : World) (t ty e : TypeId) (z : Value) (by_ : Nat) (hby : 1 ≤ by_) (ht : P.underlying t = some (.slice e)) (hi : (P.info? e).map (fun i => (i.zero, i.size, i.bytes)) = some (some z, Row.k α, by_)) (hz : z.cells.size = Row.k α)
    (base : Nat) (hb : base ≤ w.heap.size) (v : Value) (ls : List α) (S : CnX e w base v ls) (hn : (ls.length + 1) * by_ ≤ 140737488355328) (b : Nat) (l : α) (hc : ∀ j, j < Row.k α → w.cell? ⟨b, j, none⟩ = (Row.enc l)[j]?) :
    ∃ v' w', (Builtin.append_ #[t, t] ty #[v, .slice (some ⟨b, 0, none⟩) 1 1]).run P w = .ok v' w' ∧ OwX e w' base v' (ls ++ [l]) ∧ Below base w w' := by
  obtain ⟨i0, hi0, hz0, hz1, hz2⟩ := info_parts hi
  have hnews : ∀ j u, (Row.enc l)[j]? = some u → w.cell? ((⟨b, 0, none⟩ : Addr).add j) = some u := fun j u hu => by
    have hj : j < Row.k α := by rw [← Row.len l]; exact (List.getElem?_eq_some_iff.1 hu).1
    rw [Addr.add_lit, Nat.zero_add, hc j hj, hu]
  have hle := Nat.le_mul_of_pos_right (ls.length + 1) hby
  rcases S with ⟨rfl, a, rfl⟩ | hown
  · have hs := Src.ofSlice (P := P) (size := Row.k α) (tx := t) w ht ⟨b, 0, none⟩ 1 1 (Row.enc l) (by rw [Row.len, Nat.one_mul]) hnews (Row.one l)
    have hr := run_append_grow_src w t t ty e i0 z ht hi0 hz0 a 0 0 [] (by cases a <;> simp [Builtin.firstCells, loadCells, loadCellsFrom]) _ 1 (Row.enc l) (by rw [hz1]; exact hs) (by omega) (by omega)
      (by rw [hz2]; exact growslice_fits (by omega) (by rw [Nat.zero_add]; simpa using hn))
    simp only [Nat.zero_add, List.nil_append] at hr ⊢
    refine ⟨_, _, hr, ?_, below_grw w hb _⟩
    exact own_grow w hb hz [l] _ (grownCap_ge _ _ _ _) (grownCap_le_maxLen _ _ _ _ (by unfold maxLen; simp)) _ (rcells_one l).symm
  · obtain ⟨v', w', h1, h2, h3, -⟩ := run_append_own (P := P) w base t ty e i0 z (Row.k α) by_ ht hi0 hz0 hz1 hz2 hz Row.pos v ls.length (rcells ls) hown ⟨b, 0, none⟩ 1 1 (Row.enc l) (by rw [Row.len, Nat.one_mul]) hnews (Row.one l)
      (by unfold maxLen; omega) hn hb
    refine ⟨v', w', h1, ?_, h3.os, h3.tape, h3.output, h3.size, fun k hk => h3.block k (by omega) ?_⟩
    · unfold OwX
      rw [List.length_append, rcells_app, rcells_one]
      exact h2
    · intro e1
      have := (World.ownsRow.lt hown k e1.symm).1
      omega
/-- The two for the walk. -/
theorem wpList_clone_row {w : World} {ops : Array Oper} {rest : List Oper} {o : Oper} {a : Act} {Q : Exit → Act → World → Prop} (hgd : o.guard = none) (s x : Operand) (t e : TypeId)
    (ho : o.op = .call { callee := .builtin .append, args := #[s, x], argTypes := #[t, t] }) (ht : P.underlying t = some (.slice e)) (z : Value) (by_ : Nat) (hby : 1 ≤ by_)
    (hi : (P.info? e).map (fun i => (i.zero, i.size, i.bytes)) = some (some z, Row.k α, by_)) (hz : z.cells.size = Row.k α) (base : Nat) (v : Value) (ls : List α) (b : Option Addr) (hs : a.eval s = .slice b 0 0) (hx : a.eval x = v)
    (hn : ls.length * by_ ≤ 140737488355328) (S : SlX w v ls) (hb : base ≤ w.heap.size)
    (h : ∀ v' w', CnX e w' base v' ls → Below base w w' → wpList P ops Q rest (a.put o.dst v') w') : wpList P ops Q (o :: rest) a w := by
  obtain ⟨v', w', hr, h1, h2⟩ := run_clone (P := P) w t o.type e z by_ hby ht hi hz v ls S hn base hb b
  exact Lib.wpList_append_run w hgd s x t t ho _ _ hs hx v' w' hr (h v' w' h1 h2)
theorem wpList_push_row {w : World} {ops : Array Oper} {rest : List Oper} {o : Oper} {a : Act} {Q : Exit → Act → World → Prop} (hgd : o.guard = none) (s x : Operand) (t e : TypeId)
    (ho : o.op = .call { callee := .builtin .append, args := #[s, x], argTypes := #[t, t] }) (ht : P.underlying t = some (.slice e)) (z : Value) (by_ : Nat) (hby : 1 ≤ by_)
    (hi : (P.info? e).map (fun i => (i.zero, i.size, i.bytes)) = some (some z, Row.k α, by_)) (hz : z.cells.size = Row.k α) (base : Nat) (v : Value) (ls : List α) (hs : a.eval s = v) (b : Nat) (l : α) (hx : a.eval x = .slice (some ⟨b, 0, none⟩) 1 1)
    (hn : (ls.length + 1) * by_ ≤ 140737488355328) (S : CnX e w base v ls) (hb : base ≤ w.heap.size) (hc : ∀ j, j < Row.k α → w.cell? ⟨b, j, none⟩ = (Row.enc l)[j]?)
    (h : ∀ v' w', OwX e w' base v' (ls ++ [l]) → Below base w w' → wpList P ops Q rest (a.put o.dst v') w') : wpList P ops Q (o :: rest) a w := by
  obtain ⟨v', w', hr, h1, h2⟩ := run_push (P := P) w t o.type e z by_ hby ht hi hz base hb v ls S hn b l hc
  exact Lib.wpList_append_run w hgd s x t t ho _ _ hs hx v' w' hr (h v' w' h1 h2)
end
end Go.Proofs.Wk
