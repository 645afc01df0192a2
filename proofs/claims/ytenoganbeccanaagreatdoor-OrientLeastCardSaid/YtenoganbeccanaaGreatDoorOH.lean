/- SQUARENESS: the support of a pair, in the program. -/
import Derived.Test.YtenoganbeccanaaGreatDoorOF
import Derived.Test.YtenoganbeccanaaGreatDoorOA
namespace Go.Proofs.Wk
open Go.RowKit Mt

theorem s7row {w : World} {g : Nat} {u0 u1 u2 u3 u4 u5 u6 v0 v1 v2 v3 v4 v5 v6 : Value} {T : TypeId} (h : w.heap[g]? = some (.cells #[u0, u1, u2, u3, u4, u5, u6] T (0, 0))) :
    (((((((w.setCell ⟨g, 0, none⟩ v0).setCell ⟨g, 1, none⟩ v1).setCell ⟨g, 2, none⟩ v2).setCell ⟨g, 3, none⟩ v3).setCell ⟨g, 4, none⟩ v4).setCell ⟨g, 5, none⟩ v5).setCell ⟨g, 6, none⟩ v6).heap[g]? = some (.cells #[v0, v1, v2, v3, v4, v5, v6] T (0, 0)) := by
  have h0 : (w.setCell ⟨g, 0, none⟩ v0).heap[g]? = some (.cells #[v0, u1, u2, u3, u4, u5, u6] T (0, 0)) := heap_setCell_same _ g 0 _ _ v0 h
  have h1 : ((w.setCell ⟨g, 0, none⟩ v0).setCell ⟨g, 1, none⟩ v1).heap[g]? = some (.cells #[v0, v1, u2, u3, u4, u5, u6] T (0, 0)) := heap_setCell_same _ g 1 _ _ v1 h0
  have h2 : (((w.setCell ⟨g, 0, none⟩ v0).setCell ⟨g, 1, none⟩ v1).setCell ⟨g, 2, none⟩ v2).heap[g]? = some (.cells #[v0, v1, v2, u3, u4, u5, u6] T (0, 0)) := heap_setCell_same _ g 2 _ _ v2 h1
  have h3 : ((((w.setCell ⟨g, 0, none⟩ v0).setCell ⟨g, 1, none⟩ v1).setCell ⟨g, 2, none⟩ v2).setCell ⟨g, 3, none⟩ v3).heap[g]? = some (.cells #[v0, v1, v2, v3, u4, u5, u6] T (0, 0)) := heap_setCell_same _ g 3 _ _ v3 h2
  have h4 : (((((w.setCell ⟨g, 0, none⟩ v0).setCell ⟨g, 1, none⟩ v1).setCell ⟨g, 2, none⟩ v2).setCell ⟨g, 3, none⟩ v3).setCell ⟨g, 4, none⟩ v4).heap[g]? = some (.cells #[v0, v1, v2, v3, v4, u5, u6] T (0, 0)) := heap_setCell_same _ g 4 _ _ v4 h3
  have h5 : ((((((w.setCell ⟨g, 0, none⟩ v0).setCell ⟨g, 1, none⟩ v1).setCell ⟨g, 2, none⟩ v2).setCell ⟨g, 3, none⟩ v3).setCell ⟨g, 4, none⟩ v4).setCell ⟨g, 5, none⟩ v5).heap[g]? = some (.cells #[v0, v1, v2, v3, v4, v5, u6] T (0, 0)) := heap_setCell_same _ g 5 _ _ v5 h4
  have h6 : (((((((w.setCell ⟨g, 0, none⟩ v0).setCell ⟨g, 1, none⟩ v1).setCell ⟨g, 2, none⟩ v2).setCell ⟨g, 3, none⟩ v3).setCell ⟨g, 4, none⟩ v4).setCell ⟨g, 5, none⟩ v5).setCell ⟨g, 6, none⟩ v6).heap[g]? = some (.cells #[v0, v1, v2, v3, v4, v5, v6] T (0, 0)) := heap_setCell_same _ g 6 _ _ v6 h5
  exact h6
theorem b7row {a w : World} {B g : Nat} {v0 v1 v2 v3 v4 v5 v6 : Value} (h : Below B a w) (hg : B ≤ g) : Below B a (((((((w.setCell ⟨g, 0, none⟩ v0).setCell ⟨g, 1, none⟩ v1).setCell ⟨g, 2, none⟩ v2).setCell ⟨g, 3, none⟩ v3).setCell ⟨g, 4, none⟩ v4).setCell ⟨g, 5, none⟩ v5).setCell ⟨g, 6, none⟩ v6) := ((((((h.cel hg _).cel hg _).cel hg _).cel hg _).cel hg _).cel hg _).cel hg _
theorem c7row {w : World} {b : Nat} {u0 u1 u2 u3 u4 u5 u6 : Value} {T : TypeId} {fr : Nat × Nat} (h : w.heap[b]? = some (.cells #[u0, u1, u2, u3, u4, u5, u6] T fr)) : w.cell? ⟨b, 0, none⟩ = some u0 ∧ w.cell? ⟨b, 1, none⟩ = some u1 ∧ w.cell? ⟨b, 2, none⟩ = some u2 ∧ w.cell? ⟨b, 3, none⟩ = some u3 ∧ w.cell? ⟨b, 4, none⟩ = some u4 ∧ w.cell? ⟨b, 5, none⟩ = some u5 ∧ w.cell? ⟨b, 6, none⟩ = some u6 :=
  ⟨by rw [cell_of_row _ _ _ _ _ _ h]; rfl, by rw [cell_of_row _ _ _ _ _ _ h]; rfl, by rw [cell_of_row _ _ _ _ _ _ h]; rfl, by rw [cell_of_row _ _ _ _ _ _ h]; rfl, by rw [cell_of_row _ _ _ _ _ _ h]; rfl, by rw [cell_of_row _ _ _ _ _ _ h]; rfl, by rw [cell_of_row _ _ _ _ _ _ h]; rfl⟩
theorem o7row {w : World} {g k : Nat} {v0 v1 v2 v3 v4 v5 v6 : Value} (hk : k ≠ g) : (((((((w.setCell ⟨g, 0, none⟩ v0).setCell ⟨g, 1, none⟩ v1).setCell ⟨g, 2, none⟩ v2).setCell ⟨g, 3, none⟩ v3).setCell ⟨g, 4, none⟩ v4).setCell ⟨g, 5, none⟩ v5).setCell ⟨g, 6, none⟩ v6).heap[k]? = w.heap[k]? := by
  rw [heap_setCell_other _ _ _ _ hk, heap_setCell_other _ _ _ _ hk, heap_setCell_other _ _ _ _ hk, heap_setCell_other _ _ _ _ hk, heap_setCell_other _ _ _ _ hk, heap_setCell_other _ _ _ _ hk, heap_setCell_other _ _ _ _ hk]

theorem s3row {w : World} {g : Nat} {u0 u1 u2 v0 v1 v2 : Value} {T : TypeId} (h : w.heap[g]? = some (.cells #[u0, u1, u2] T (0, 0))) :
    (((w.setCell ⟨g, 0, none⟩ v0).setCell ⟨g, 1, none⟩ v1).setCell ⟨g, 2, none⟩ v2).heap[g]? = some (.cells #[v0, v1, v2] T (0, 0)) := by
  have h0 : (w.setCell ⟨g, 0, none⟩ v0).heap[g]? = some (.cells #[v0, u1, u2] T (0, 0)) := heap_setCell_same w g 0 _ _ v0 h
  have h1 : ((w.setCell ⟨g, 0, none⟩ v0).setCell ⟨g, 1, none⟩ v1).heap[g]? = some (.cells #[v0, v1, u2] T (0, 0)) := heap_setCell_same _ g 1 _ _ v1 h0
  exact heap_setCell_same _ g 2 _ _ v2 h1
theorem s3rowd {w : World} {g : Nat} {u0 u1 u2 v0 v1 v2 : Value} {T : TypeId} (h : w.heap[g]? = some (.cells #[u0, u1, u2] T (0, 0))) :
    (((w.setCell ⟨g, 0, none⟩ v0).setCell ⟨g, 1, none⟩ v1).setCell ⟨g, 2, none⟩ v2).drew.heap[g]? = some (.cells #[v0, v1, v2] T (0, 0)) := s3row h
theorem b3row {a w : World} {B g : Nat} {v0 v1 v2 : Value} (h : Below B a w) (hg : B ≤ g) : Below B a (((w.setCell ⟨g, 0, none⟩ v0).setCell ⟨g, 1, none⟩ v1).setCell ⟨g, 2, none⟩ v2) := ((h.cel hg _).cel hg _).cel hg _
theorem o3row {w : World} {g k : Nat} {v0 v1 v2 : Value} (hk : k ≠ g) : (((w.setCell ⟨g, 0, none⟩ v0).setCell ⟨g, 1, none⟩ v1).setCell ⟨g, 2, none⟩ v2).heap[k]? = w.heap[k]? :=
  (heap_setCell_other _ _ _ _ hk).trans ((heap_setCell_other _ _ _ _ hk).trans (heap_setCell_other _ _ _ _ hk))
/-- A support as a value. -/
abbrev supC (s : Or.Sup) (n : Or.P3) : Array Value := #[.int .i64 (s.i : Int), .int .i64 (s.j : Int), .int .i64 s.far, .int .i64 (s.at' : Int), .int .i64 n.x, .int .i64 n.y, .int .i64 n.z]
abbrev supV (s : Or.Sup) (n : Or.P3) : Value := .agg (supC s n)
/-- The normal of a pair. -/
def nrm (ls : List Or.P3) (d : Or.P3) (i j : Nat) : Or.P3 := Or.crs d (Or.sub (Or.at_ ls j) (Or.at_ ls i))
/-- What the program's function returns. -/
def suppV (ls : List Or.P3) (d : Or.P3) (i j : Nat) : Value := if Or.okS ls d i j = true then .tuple #[supV (Or.sup ls d i j) (nrm ls d i j), .bool true] else .tuple #[supV ⟨0, 0, 0, 0⟩ ⟨0, 0, 0⟩, .bool false]
theorem nrm_bd {ls : List Or.P3} {d : Or.P3} {i j : Nat} (hd : InS d) (hin : ∀ p ∈ ls, InS p) (hi : i < ls.length) (hj : j < ls.length) : Bd 40000000000 (nrm ls d i j) :=
  (Bd.of hd).crs ((Bd.of (hin _ (Or.at_mem hj))).sub (Bd.of (hin _ (Or.at_mem hi))) (n := 200000) (by decide)) (by decide)
theorem hgt_bd {ls : List Or.P3} {d : Or.P3} {i j : Nat} (hd : InS d) (hin : ∀ p ∈ ls, InS p) (hi : i < ls.length) (hj : j < ls.length) {p : Or.P3} (hp : InS p) :
    -24000000000000000 ≤ Or.hgt d (Or.at_ ls i) (Or.at_ ls j) p ∧ Or.hgt d (Or.at_ ls i) (Or.at_ ls j) p ≤ 24000000000000000 := by
  have h1 := nrm_bd hd hin hi hj
  have h2 := (Bd.of hp).sub (Bd.of (hin _ (Or.at_mem hi))) (n := 200000) (by decide)
  exact h1.dot h2
theorem eds_bd {ls : List Or.P3} {d : Or.P3} {i j : Nat} (hd : InS d) (hin : ∀ p ∈ ls, InS p) (hi : i < ls.length) (hj : j < ls.length) :
    (-24000000000000000 ≤ (Or.eds ls d i j).low ∧ (Or.eds ls d i j).low ≤ 24000000000000000) ∧ -24000000000000000 ≤ (Or.eds ls d i j).high ∧ (Or.eds ls d i j).high ≤ 24000000000000000 := by
  obtain ⟨-, ⟨x, hx, ex⟩, y, hy, ey⟩ := Or.eds_spec (l := ls) d i j (by rintro rfl; simp at hi)
  rw [ex, ey]
  exact ⟨hgt_bd hd hin hi hj (hin x hx), hgt_bd hd hin hi hj (hin y hy)⟩
theorem sup_bd {ls : List Or.P3} {d : Or.P3} {i j : Nat} (hd : InS d) (hin : ∀ p ∈ ls, InS p) (hi : i < ls.length) (hj : j < ls.length) : -24000000000000000 ≤ (Or.sup ls d i j).far ∧ (Or.sup ls d i j).far ≤ 24000000000000000 := by
  have := eds_bd hd hin hi hj
  unfold Or.sup
  split
  · exact this.1
  · exact this.2
/-- The boxes of the arguments. -/
structure SuM (w W : World) (v : Value) (d : Or.P3) (i : Nat) : Prop where
  l : W.heap[w.heap.size]? = some (.cells #[v] 50 (0, 0))
  d : W.heap[w.heap.size + 1]? = some (.cells #[.int .i64 d.x, .int .i64 d.y, .int .i64 d.z] 52 (0, 0))
  i : W.heap[w.heap.size + 1 + 1]? = some (.cells #[.int .i64 (i : Int)] 3 (0, 0))
  r : W.heap[w.heap.size + 1 + 1 + 1]? = some (.cells #[.int .i64 0, .int .i64 0, .int .i64 0, .int .i64 0, .int .i64 0, .int .i64 0, .int .i64 0] 146 (0, 0))
  w : Below w.heap.size w W
theorem SuM.later {w W W' : World} {v : Value} {d : Or.P3} {i : Nat} (h : SuM w W v d i) (hb : Below W.heap.size W W') : SuM w W' v d i := ⟨keepD h.l hb, keepD h.d hb, keepD h.i hb, keepD h.r hb, h.w.nx hb⟩
theorem SuM.drew {w W : World} {v : Value} {d : Or.P3} {i : Nat} (h : SuM w W v d i) : SuM w W.drew v d i := ⟨h.l, h.d, h.i, h.r, h.w.drew⟩
theorem suM_new (w : World) (v : Value) (d : Or.P3) (i : Nat) : SuM w ((((w.alloc (.cells #[v] 50)).alloc (.cells #[.int .i64 d.x, .int .i64 d.y, .int .i64 d.z] 52)).alloc (.cells #[.int .i64 (i : Int)] 3)).alloc (.cells #[.int .i64 0, .int .i64 0, .int .i64 0, .int .i64 0, .int .i64 0, .int .i64 0, .int .i64 0] 146)) v d i := by
  obtain ⟨h1, h2, h3, h4, h5⟩ := al4 w (.cells #[v] 50) (.cells #[.int .i64 d.x, .int .i64 d.y, .int .i64 d.z] 52) (.cells #[.int .i64 (i : Int)] 3) (.cells #[.int .i64 0, .int .i64 0, .int .i64 0, .int .i64 0, .int .i64 0, .int .i64 0, .int .i64 0] 146)
  exact ⟨h1, h2, h3, h4, h5⟩
theorem SuM.put3 {w W : World} {v : Value} {d : Or.P3} {i g : Nat} (h : SuM w W v d i) (hg : w.heap.size + 1 + 1 + 1 < g) (v0 v1 v2 : Value) : SuM w (((W.setCell ⟨g, 0, none⟩ v0).setCell ⟨g, 1, none⟩ v1).setCell ⟨g, 2, none⟩ v2) v d i :=
  ⟨(o3row (show w.heap.size ≠ g by omega)).trans h.l, (o3row (show w.heap.size + 1 ≠ g by omega)).trans h.d, (o3row (show w.heap.size + 1 + 1 ≠ g by omega)).trans h.i, (o3row (show w.heap.size + 1 + 1 + 1 ≠ g by omega)).trans h.r, b3row h.w (by omega)⟩
theorem SuM.lt {w W : World} {v : Value} {d : Or.P3} {i : Nat} (h : SuM w W v d i) : w.heap.size + 1 + 1 + 1 < W.heap.size := (Array.getElem?_eq_some_iff.1 h.r).1
/-- What the normal's region reads. -/
structure SuR (w W : World) (v : Value) (b o1 o2 : Nat) (d a c : Or.P3) (i : Nat) : Prop where
  s : SuM w W v d i
  a : SpAt W b o1 a
  c : SpAt W b o2 c
theorem SuR.later {w W W' : World} {v : Value} {b o1 o2 : Nat} {d a c : Or.P3} {i : Nat} (h : SuR w W v b o1 o2 d a c i) (hb : Below W.heap.size W W') : SuR w W' v b o1 o2 d a c i := ⟨h.s.later hb, h.a.later hb, h.c.later hb⟩
theorem SuR.drew {w W : World} {v : Value} {b o1 o2 : Nat} {d a c : Or.P3} {i : Nat} (h : SuR w W v b o1 o2 d a c i) : SuR w W.drew v b o1 o2 d a c i := ⟨h.s.drew, h.a.drew, h.c.drew⟩
theorem SuR.t {w W : World} {v : Value} {b o1 o2 : Nat} {dx dy dz ax ay az cx cy cz : Int} {i : Nat} (h : SuR w W v b o1 o2 ⟨dx, dy, dz⟩ ⟨ax, ay, az⟩ ⟨cx, cy, cz⟩ i) :
    W.cell? ⟨w.heap.size, 0, none⟩ = some v ∧ W.cell? ⟨w.heap.size + 1, 0, none⟩ = some (.int .i64 dx) ∧ W.cell? ⟨w.heap.size + 1, 1, none⟩ = some (.int .i64 dy) ∧ W.cell? ⟨w.heap.size + 1, 2, none⟩ = some (.int .i64 dz) ∧ W.cell? ⟨w.heap.size + 1 + 1, 0, none⟩ = some (.int .i64 (i : Int)) ∧
    W.cell? ⟨b, o1, none⟩ = some (.int .i64 ax) ∧ W.cell? ⟨b, o1 + 1, none⟩ = some (.int .i64 ay) ∧ W.cell? ⟨b, o1 + 2, none⟩ = some (.int .i64 az) ∧ W.cell? ⟨b, o2, none⟩ = some (.int .i64 cx) ∧ W.cell? ⟨b, o2 + 1, none⟩ = some (.int .i64 cy) ∧ W.cell? ⟨b, o2 + 2, none⟩ = some (.int .i64 cz) ∧
    SuR w W v b o1 o2 ⟨dx, dy, dz⟩ ⟨ax, ay, az⟩ ⟨cx, cy, cz⟩ i :=
  ⟨c1row h.s.l, (c3row h.s.d).1, (c3row h.s.d).2.1, (c3row h.s.d).2.2, c1row h.s.i, h.a.c0, h.a.c1, h.a.c2, h.c.c0, h.c.c1, h.c.c2, h⟩
theorem SpAt.put3 {W : World} {b o : Nat} {p : Or.P3} (h : SpAt W b o p) {g : Nat} (hg : b ≠ g) (u v x : Value) : SpAt (((W.setCell ⟨g, 0, none⟩ u).setCell ⟨g, 1, none⟩ v).setCell ⟨g, 2, none⟩ x) b o p := by
  have e : (((W.setCell ⟨g, 0, none⟩ u).setCell ⟨g, 1, none⟩ v).setCell ⟨g, 2, none⟩ x).heap[b]? = W.heap[b]? := o3row hg
  exact ⟨(World.cell?_of_block (a := ⟨b, o, none⟩) e).trans h.c0, (World.cell?_of_block (a := ⟨b, o + 1, none⟩) e).trans h.c1, (World.cell?_of_block (a := ⟨b, o + 2, none⟩) e).trans h.c2⟩
theorem SuR.put3 {w W : World} {v : Value} {b o1 o2 : Nat} {d a c : Or.P3} {i : Nat} (h : SuR w W v b o1 o2 d a c i) (hb : b < w.heap.size) {g : Nat} (hg : w.heap.size + 1 + 1 + 1 < g) (v0 v1 v2 : Value) : SuR w (((W.setCell ⟨g, 0, none⟩ v0).setCell ⟨g, 1, none⟩ v1).setCell ⟨g, 2, none⟩ v2) v b o1 o2 d a c i :=
  ⟨h.s.put3 hg _ _ _, h.a.put3 (by omega) _ _ _, h.c.put3 (by omega) _ _ _⟩
/-- What the closure reads. -/
structure SuK (W : World) (gn gs gi : Nat) (v : Value) (n : Or.P3) (i : Nat) (b o1 o2 : Nat) (a p : Or.P3) : Prop where
  n : W.heap[gn]? = some (.cells #[.int .i64 n.x, .int .i64 n.y, .int .i64 n.z] 52 (0, 0))
  s : W.heap[gs]? = some (.cells #[v] 50 (0, 0))
  i : W.heap[gi]? = some (.cells #[.int .i64 (i : Int)] 3 (0, 0))
  a : SpAt W b o1 a
  p : SpAt W b o2 p
theorem SuK.drew {W : World} {gn gs gi i b o1 o2 : Nat} {v : Value} {n a p : Or.P3} (h : SuK W gn gs gi v n i b o1 o2 a p) : SuK W.drew gn gs gi v n i b o1 o2 a p := ⟨h.n, h.s, h.i, h.a.drew, h.p.drew⟩
theorem SuK.later {W W' : World} {gn gs gi i b o1 o2 : Nat} {v : Value} {n a p : Or.P3} (h : SuK W gn gs gi v n i b o1 o2 a p) (hb : Below W.heap.size W W') : SuK W' gn gs gi v n i b o1 o2 a p := ⟨keepD h.n hb, keepD h.s hb, keepD h.i hb, h.a.later hb, h.p.later hb⟩
theorem SuK.t {W : World} {gn gs gi i b o1 o2 : Nat} {v : Value} {nx ny nz ax ay az px py pz : Int} (h : SuK W gn gs gi v ⟨nx, ny, nz⟩ i b o1 o2 ⟨ax, ay, az⟩ ⟨px, py, pz⟩) :
    W.cell? ⟨gn, 0, none⟩ = some (.int .i64 nx) ∧ W.cell? ⟨gn, 1, none⟩ = some (.int .i64 ny) ∧ W.cell? ⟨gn, 2, none⟩ = some (.int .i64 nz) ∧ W.cell? ⟨gs, 0, none⟩ = some v ∧ W.cell? ⟨gi, 0, none⟩ = some (.int .i64 (i : Int)) ∧
    W.cell? ⟨b, o1, none⟩ = some (.int .i64 ax) ∧ W.cell? ⟨b, o1 + 1, none⟩ = some (.int .i64 ay) ∧ W.cell? ⟨b, o1 + 2, none⟩ = some (.int .i64 az) ∧ W.cell? ⟨b, o2, none⟩ = some (.int .i64 px) ∧ W.cell? ⟨b, o2 + 1, none⟩ = some (.int .i64 py) ∧ W.cell? ⟨b, o2 + 2, none⟩ = some (.int .i64 pz) ∧
    SuK W gn gs gi v ⟨nx, ny, nz⟩ i b o1 o2 ⟨ax, ay, az⟩ ⟨px, py, pz⟩ :=
  ⟨(c3row h.n).1, (c3row h.n).2.1, (c3row h.n).2.2, c1row h.s, c1row h.i, h.a.c0, h.a.c1, h.a.c2, h.p.c0, h.p.c1, h.p.c2, h⟩
set_option maxRecDepth 100000 in
set_option maxHeartbeats 2000000 in
theorem supported_f (gn gs gi b off m i k : Nat) (cap : Nat) (n a p : Or.P3) (W : World) (hi : i < m) (hk : k < m) (hn : Bd 40000000000 n) (ha : InS a) (hp : InS p) (hM : SuK W gn gs gi (.slice (some ⟨b, off, none⟩) m cap) n i b (off + i * 3) (off + k * 3) a p) :
    Calls Tryz.prog 157 #[.int .i64 (k : Int), .pointer (some ⟨gn, 0, none⟩), .pointer (some ⟨gs, 0, none⟩), .pointer (some ⟨gi, 0, none⟩)] W (Ret W (.int .i64 (Or.dot n (Or.sub p a)))) := by
  have HL := Lib.hid (fun W => oless_c p a 100000 100000 W (Bd.of hp) (Bd.of ha) (by decide))
  have HF := Lib.hid (fun W => odot_c n (Or.sub p a) 40000000000 200000 W hn ((Bd.of hp).sub (Bd.of ha) (by decide)) (by decide))
  generalize Or.dot n (Or.sub p a) = R at *
  generalize Or.sub p a = q at *
  obtain ⟨nx, ny, nz⟩ := n
  obtain ⟨ax, ay, az⟩ := a
  obtain ⟨px, py, pz⟩ := p
  obtain ⟨qx, qy, qz⟩ := q
  have i0 : (0 : Int) ≤ (i : Int) := by omega
  have i1 : (i : Int) < (m : Int) := by omega
  have k0 : (0 : Int) ≤ (k : Int) := by omega
  have k1 : (k : Int) < (m : Int) := by omega
  have HM := Lib.hid hM
  obtain ⟨m0, m1, m2, m3, m4, m5, m6, m7, m8, m9, m10, -⟩ := hM.t
  have HB := Lib.hid (Below.refl W.heap.size W)
  clear hn ha hp hM
  go_enter Tryz.func157, Tryz.ntmps157
  go_wp2_with fail
  go_region_held3 (fun w' => w'.cell? ⟨gn, 0, none⟩ = some (.int .i64 nx) ∧ w'.cell? ⟨gn, 1, none⟩ = some (.int .i64 ny) ∧ w'.cell? ⟨gn, 2, none⟩ = some (.int .i64 nz) ∧ w'.cell? ⟨gs, 0, none⟩ = some (.slice (some ⟨b, off, none⟩) m cap) ∧ w'.cell? ⟨gi, 0, none⟩ = some (.int .i64 (i : Int)) ∧
      w'.cell? ⟨b, off + i * 3, none⟩ = some (.int .i64 ax) ∧ w'.cell? ⟨b, off + i * 3 + 1, none⟩ = some (.int .i64 ay) ∧ w'.cell? ⟨b, off + i * 3 + 2, none⟩ = some (.int .i64 az) ∧ w'.cell? ⟨b, off + k * 3, none⟩ = some (.int .i64 px) ∧ w'.cell? ⟨b, off + k * 3 + 1, none⟩ = some (.int .i64 py) ∧ w'.cell? ⟨b, off + k * 3 + 2, none⟩ = some (.int .i64 pz) ∧
      SuK w' gn gs gi (.slice (some ⟨b, off, none⟩) m cap) ⟨nx, ny, nz⟩ i b (off + i * 3) (off + k * 3) ⟨ax, ay, az⟩ ⟨px, py, pz⟩)
    (first | exact J2.t | exact JJ.t | exact HM.out.t | exact HM.out.drew.t)
    (first
      | (go_at_call 97; (with_reducible refine (HL.out _).mono ?_); rintro e w4 ⟨rfl, hb4⟩; (first | (have JJ := HM.out.drew.later hb4; have BB := HB.out.drew.nx hb4) | (have JJ := HM.out.later hb4; have BB := HB.out.nx hb4)))
      | (go_at_call 92; (with_reducible refine (HF.out _).mono ?_); rintro e w5 ⟨rfl, hb5⟩; have J2 := JJ.later hb5; have B2 := BB.nx hb5)
      | fail)
  all_goals
    go_wp2
    go_ret
    exact ⟨rfl, B2⟩
set_option maxRecDepth 100000 in
set_option maxHeartbeats 10000000 in
theorem supported_c {v : Value} (ls : List Or.P3) (d : Or.P3) (i j : Nat) (w : World) (S : SlX w v ls) (hin : ∀ p ∈ ls, InS p) (hd : InS d) (hi : i < ls.length) (hj : j < ls.length) (hn : ls.length ≤ 64) :
    Calls Tryz.prog 115 #[v, spV d, .int .i64 (i : Int), .int .i64 (j : Int)] w (Ret w (suppV ls d i j)) := by
  refine S.cases _ ?_ ?_
  · rintro a cap rfl rfl
    simp at hi
  rintro b off cap rfl hp hR hb
  have hz := suM_new w (.slice (some ⟨b, off, none⟩) ls.length cap) d i
  have HRR := Lib.hid (fun (W : World) (h : Below w.heap.size w W) (k : Nat) (hk : k < ls.length) => (hR.later h hb).spAt hk)
  have HL := Lib.hid (fun W => oless_c (Or.at_ ls j) (Or.at_ ls i) 100000 100000 W (Bd.of (hin _ (Or.at_mem hj))) (Bd.of (hin _ (Or.at_mem hi))) (by decide))
  have HC := Lib.hid (show ∀ W, Calls Tryz.prog 96 #[spV d, spV (Or.sub (Or.at_ ls j) (Or.at_ ls i))] W (Ret W (spV (nrm ls d i j))) from fun W => ocross_c d (Or.sub (Or.at_ ls j) (Or.at_ ls i)) 100000 200000 W (Bd.of hd) ((Bd.of (hin _ (Or.at_mem hj))).sub (Bd.of (hin _ (Or.at_mem hi))) (by decide)) (by decide))
  have HEN := Lib.hid (fun (gn : Nat) W (hM : SuM w W (.slice (some ⟨b, off, none⟩) ls.length cap) d i) (hN : W.heap[gn]? = some (.cells #[.int .i64 (nrm ls d i j).x, .int .i64 (nrm ls d i j).y, .int .i64 (nrm ls d i j).z] 52 (0, 0))) =>
    ends_s (Or.hts ls d i j) ls.length (.pointer (some ⟨gn, 0, none⟩)) (.pointer (some ⟨w.heap.size, 0, none⟩)) (.pointer (some ⟨w.heap.size + 1 + 1, 0, none⟩)) W (by unfold Or.hts; rw [List.length_map]) (by omega) (by omega) (fun k hk W' hb' => by
      have hM' := hM.later hb'
      have := supported_f gn w.heap.size (w.heap.size + 1 + 1) b off ls.length i k cap (nrm ls d i j) (Or.at_ ls i) (Or.at_ ls k) W' hi hk (nrm_bd hd hin hi hj) (hin _ (Or.at_mem hi)) (hin _ (Or.at_mem hk)) ⟨keepD hN hb', hM'.l, hM'.i, HRR.out _ hM'.w i hi, HRR.out _ hM'.w k hk⟩
      rwa [show (Or.hts ls d i j).getD k 0 = Or.dot (nrm ls d i j) (Or.sub (Or.at_ ls k) (Or.at_ ls i)) by unfold Or.hts; rw [Or.at_get hk, List.getD_eq_getElem?_getD, List.getElem?_map, List.getElem?_eq_getElem hk]; rfl]))
  have hre : Or.ends (Or.hts ls d i j) = Or.eds ls d i j := rfl
  rw [hre] at HEN
  have hne : ¬ (nrm ls d i j = ⟨0, 0, 0⟩) → Or.okS ls d i j = !(decide ((Or.eds ls d i j).low < 0) && decide (0 < (Or.eds ls d i j).high)) := fun h => by
    unfold Or.okS
    rw [decide_eq_true (show Or.crs d (Or.sub (Or.at_ ls j) (Or.at_ ls i)) ≠ ⟨0, 0, 0⟩ from h), Bool.true_and]
  have heq : nrm ls d i j = ⟨0, 0, 0⟩ → Or.okS ls d i j = false := fun h => by
    unfold Or.okS
    rw [decide_eq_false (show ¬ Or.crs d (Or.sub (Or.at_ ls j) (Or.at_ ls i)) ≠ ⟨0, 0, 0⟩ from fun q => q h), Bool.false_and]
  have hsp : Or.sup ls d i j = if (Or.eds ls d i j).low < 0 then ⟨i, j, (Or.eds ls d i j).low, (Or.eds ls d i j).a0⟩ else ⟨i, j, (Or.eds ls d i j).high, (Or.eds ls d i j).a1⟩ := rfl
  have ha := HRR.out w (Below.refl _ _) i hi
  have hc := HRR.out w (Below.refl _ _) j hj
  have hSR : SuR w ((((w.alloc (.cells #[.slice (some ⟨b, off, none⟩) ls.length cap] 50)).alloc (.cells #[.int .i64 d.x, .int .i64 d.y, .int .i64 d.z] 52)).alloc (.cells #[.int .i64 (i : Int)] 3)).alloc (.cells #[.int .i64 0, .int .i64 0, .int .i64 0, .int .i64 0, .int .i64 0, .int .i64 0, .int .i64 0] 146)) (.slice (some ⟨b, off, none⟩) ls.length cap) b (off + i * 3) (off + j * 3) d (Or.at_ ls i) (Or.at_ ls j) i := ⟨hz, HRR.out _ hz.w i hi, HRR.out _ hz.w j hj⟩
  have pz : ∀ n : Or.P3, ((n.x == 0) && ((n.y == 0) && (n.z == 0))) = decide (n = ⟨0, 0, 0⟩) := fun n => sp_beq n ⟨0, 0, 0⟩
  have i0 : (0 : Int) ≤ (i : Int) := by omega
  have i1 : (i : Int) < (ls.length : Int) := by omega
  have j0 : (0 : Int) ≤ (j : Int) := by omega
  have j1 : (j : Int) < (ls.length : Int) := by omega
  have hrv : suppV ls d i j = if Or.okS ls d i j = true then .tuple #[supV (Or.sup ls d i j) (nrm ls d i j), .bool true] else .tuple #[supV ⟨0, 0, 0, 0⟩ ⟨0, 0, 0⟩, .bool false] := rfl
  generalize suppV ls d i j = RV at *
  generalize Or.sup ls d i j = SS at *
  generalize Or.okS ls d i j = OK at *
  generalize Or.eds ls d i j = E at *
  generalize nrm ls d i j = n at *
  generalize Or.sub (Or.at_ ls j) (Or.at_ ls i) = q at *
  generalize Or.at_ ls i = a at *
  generalize Or.at_ ls j = c at *
  obtain ⟨low, high, a0, a1⟩ := E
  obtain ⟨qx, qy, qz⟩ := q
  obtain ⟨ax, ay, az⟩ := a
  obtain ⟨cx, cy, cz⟩ := c
  obtain ⟨dx, dy, dz⟩ := d
  obtain ⟨nx, ny, nz⟩ := n
  simp only at hz hne hsp HEN hSR
  have HZ := Lib.hid hz
  have HSR := Lib.hid hSR
  have pe := fun W => sp_eql nx ny nz 0 0 0 W
  have HPZ := Lib.hid (pz ⟨nx, ny, nz⟩)
  have HNE := Lib.hid hne
  have HEQ := Lib.hid heq
  have HSP := Lib.hid hsp
  have HRV := Lib.hid hrv
  have HBB := Lib.hid hb
  clear hz hSR hR hb hp hin hd S ha hc hne heq hsp hrv hn hre HRR pz
  go_enter Tryz.func115, Tryz.ntmps115
  go_wp2_with fail
  generalize ((((w.alloc (.cells #[.slice (some ⟨b, off, none⟩) ls.length cap] 50)).alloc (.cells #[.int .i64 dx, .int .i64 dy, .int .i64 dz] 52)).alloc (.cells #[.int .i64 (i : Int)] 3)).alloc (.cells #[.int .i64 0, .int .i64 0, .int .i64 0, .int .i64 0, .int .i64 0, .int .i64 0, .int .i64 0] 146)) = W0 at *
  go_cut [10] (fun s10 wx => ∃ gn, s10 = .pointer (some ⟨gn, 0, none⟩) ∧ w.heap.size + 1 + 1 + 1 < gn ∧ Hid (wx.heap[gn]? = some (.cells #[.int .i64 nx, .int .i64 ny, .int .i64 nz] 52 (0, 0))) ∧ Hid (SuM w wx (.slice (some ⟨b, off, none⟩) ls.length cap) ⟨dx, dy, dz⟩ i))
  case first =>
    go_region_held3 (fun w' => w'.cell? ⟨w.heap.size, 0, none⟩ = some (.slice (some ⟨b, off, none⟩) ls.length cap) ∧ w'.cell? ⟨w.heap.size + 1, 0, none⟩ = some (.int .i64 dx) ∧ w'.cell? ⟨w.heap.size + 1, 1, none⟩ = some (.int .i64 dy) ∧ w'.cell? ⟨w.heap.size + 1, 2, none⟩ = some (.int .i64 dz) ∧ w'.cell? ⟨w.heap.size + 1 + 1, 0, none⟩ = some (.int .i64 (i : Int)) ∧
        w'.cell? ⟨b, off + i * 3, none⟩ = some (.int .i64 ax) ∧ w'.cell? ⟨b, off + i * 3 + 1, none⟩ = some (.int .i64 ay) ∧ w'.cell? ⟨b, off + i * 3 + 2, none⟩ = some (.int .i64 az) ∧ w'.cell? ⟨b, off + j * 3, none⟩ = some (.int .i64 cx) ∧ w'.cell? ⟨b, off + j * 3 + 1, none⟩ = some (.int .i64 cy) ∧ w'.cell? ⟨b, off + j * 3 + 2, none⟩ = some (.int .i64 cz) ∧
        SuR w w' (.slice (some ⟨b, off, none⟩) ls.length cap) b (off + i * 3) (off + j * 3) ⟨dx, dy, dz⟩ ⟨ax, ay, az⟩ ⟨cx, cy, cz⟩ i)
      (first | with_reducible exact (J2.put3 HBB.out hl3 _ _ _).t | with_reducible exact J2.t | with_reducible exact (J2.later (below_al _ _)).t | with_reducible exact JJ.t | with_reducible exact (JJ.later (below_al _ _)).t | with_reducible exact HSR.out.t | with_reducible exact HSR.out.drew.t | with_reducible exact (HSR.out.later (below_al _ _)).t | with_reducible exact (HSR.out.drew.later (below_al _ _)).t | with_reducible exact (HSR.out.later (below_al _ _)).drew.t)
      (first
        | (go_at_call 97; (with_reducible refine (HL.out _).mono ?_); rintro e w2 ⟨rfl, hb2⟩;
            (first
              | with_reducible have JJ := HSR.out.drew.later hb2
              | with_reducible have JJ := HSR.out.later hb2
              | (have hbx : Below (W0.alloc (.cells #[.int .i64 0, .int .i64 0, .int .i64 0] 52)).heap.size (W0.alloc (.cells #[.int .i64 0, .int .i64 0, .int .i64 0] 52)) w2 := ⟨hb2.os, hb2.tape, hb2.output, hb2.size, hb2.block⟩;
                 have JJ := (HSR.out.later (below_al W0 _)).later hbx; have hzz := keepD (heap_alloc_new W0 _) hbx; have hlt := HSR.out.s.lt)))
        | (go_at_call 96; (with_reducible refine (HC.out _).mono ?_); rintro e w3 ⟨rfl, hb3⟩;
            (first
              | (with_reducible have J2 := JJ.later hb3; have hz3 := keepD hzz hb3; have hl3 := hlt; obtain ⟨z0, z1, z2⟩ := c3row hz3; have f0 := (fun k => free_row hz3 k))
              | with_reducible have J2 := JJ.later hb3
              | (have J2 := (JJ.later (below_al w2 _)).later hb3; have hz3 := keepD (heap_alloc_new w2 _) hb3; have hl3 := JJ.s.lt; obtain ⟨z0, z1, z2⟩ := c3row hz3; have f0 := (fun k => free_row hz3 k))))
        | fail)
    all_goals (go_wp2_with fail; go_meet)
    all_goals
      first
        | exact ⟨_, rfl, J2.s.lt, heap_alloc_new w3 _, J2.s.later (below_al _ _)⟩
        | exact ⟨_, rfl, hl3, s3row hz3, J2.s.put3 hl3 _ _ _⟩
        | trace_state
  case rest =>
    obtain ⟨gn, rfl, hgn, hN, hS⟩ := hcut
    have HGN := Lib.hid hgn
    clear HSR HL HC hgn HZ
    obtain ⟨n0, n1, n2⟩ := c3row hN.out
    have l0 := c1row hS.out.l
    obtain ⟨r0, r1, r2, r3, r4, r5, r6⟩ := c7row hS.out.r
    have hf := fun k => free_row hS.out.r k
    by_cases h0 : (⟨nx, ny, nz⟩ : Or.P3) = ⟨0, 0, 0⟩
    · have h1 := HPZ.out
      rw [decide_eq_true h0] at h1
      rw [h1] at pe
      obtain rfl := HRV.out.trans (if_neg (by rw [HEQ.out h0]; simp))
      clear HRV HNE HEQ HSP HPZ h1 h0 HEN
      go_wp2
      refine bodyPost_ret (res_ct rfl (by kernel_rfl) (s7row hS.out.r) Tryz.underlying146 rfl (by kernel_rfl) rfl) rfl ?_
      exact ⟨rfl, b7row hS.out.w (by omega)⟩
    · have h1 := HPZ.out
      rw [decide_eq_false h0] at h1
      rw [h1] at pe
      have hok := HNE.out h0
      clear HNE HEQ HPZ h1 h0 r0 r1 r2 r3 r4 r5 r6 hf
      go_wp2_with fail
      ((with_reducible refine (HEN.out _ _ hS.out hN.out).mono ?_); rintro e w4 ⟨rfl, hb4⟩)
      have hA4 := below_al w4 (.cells #[.int .i64 (a0 : Int), .int .i64 (a1 : Int)] 44)
      have HS4 := Lib.hid ((hS.out.later hb4).later hA4)
      have HN4 := Lib.hid (keepD (keepD hN.out hb4) hA4)
      have HE4 := Lib.hid (heap_alloc_new w4 (.cells #[.int .i64 (a0 : Int), .int .i64 (a1 : Int)] 44))
      clear hb4 hA4 HEN hS hN n0 n1 n2 l0 pe
      go_upto_region 5 with fail
      generalize w4.alloc (.cells #[.int .i64 (a0 : Int), .int .i64 (a1 : Int)] 44) = w5 at *
      generalize w4.heap.size = ge at *
      obtain ⟨n0, n1, n2⟩ := c3row HN4.out
      obtain ⟨e0, e1⟩ := c2row HE4.out
      have i0' := c1row HS4.out.i
      obtain ⟨r0, r1, r2, r3, r4, r5, r6⟩ := c7row HS4.out.r
      have hf := fun k => free_row HS4.out.r k
      by_cases hl : low < 0
      · by_cases hh : 0 < high
        · rw [decide_eq_true hl, decide_eq_true hh] at hok
          obtain rfl := HRV.out.trans (if_neg (by rw [hok]; simp))
          clear hok HRV HSP
          go_wp2
          refine bodyPost_ret (res_ct rfl (by kernel_rfl) (s7row HS4.out.r) Tryz.underlying146 rfl (by kernel_rfl) rfl) rfl ?_
          exact ⟨rfl, b7row HS4.out.w (by omega)⟩
        · rw [decide_eq_false hh, Bool.and_false, Bool.not_false] at hok
          have hsp := HSP.out
          rw [if_pos hl] at hsp
          have hrv := HRV.out
          rw [if_pos hok, hsp] at hrv
          subst hrv
          clear HRV hok hsp HSP
          go_wp2
          refine bodyPost_ret (res_ct rfl (by kernel_rfl) (s7row HS4.out.r) Tryz.underlying146 rfl (by kernel_rfl) rfl) rfl ?_
          exact ⟨rfl, b7row HS4.out.w (by omega)⟩
      · rw [decide_eq_false hl, Bool.false_and, Bool.not_false] at hok
        have hsp := HSP.out
        rw [if_neg hl] at hsp
        have hrv := HRV.out
        rw [if_pos hok, hsp] at hrv
        subst hrv
        clear HRV hok hsp HSP
        go_wp2
        refine bodyPost_ret (res_ct rfl (by kernel_rfl) (s7row HS4.out.r) Tryz.underlying146 rfl (by kernel_rfl) rfl) rfl ?_
        exact ⟨rfl, b7row HS4.out.w (by omega)⟩
end Go.Proofs.Wk
/- SQUARENESS: the reference's normals, heights, and what stands on a pair. -/
namespace Go.Proofs.Wk
open Go.RowKit Mt

/-- A direction's box, and two points. -/
structure NmR (w W : World) (b o1 o2 : Nat) (d a c : Or.P3) : Prop where
  d : W.heap[w.heap.size]? = some (.cells #[.int .i64 d.x, .int .i64 d.y, .int .i64 d.z] 52 (0, 0))
  w : Below w.heap.size w W
  a : SpAt W b o1 a
  c : SpAt W b o2 c
theorem NmR.later {w W W' : World} {b o1 o2 : Nat} {d a c : Or.P3} (h : NmR w W b o1 o2 d a c) (hb : Below W.heap.size W W') : NmR w W' b o1 o2 d a c := ⟨keepD h.d hb, h.w.nx hb, h.a.later hb, h.c.later hb⟩
theorem NmR.drew {w W : World} {b o1 o2 : Nat} {d a c : Or.P3} (h : NmR w W b o1 o2 d a c) : NmR w W.drew b o1 o2 d a c := ⟨h.d, h.w.drew, h.a.drew, h.c.drew⟩
theorem NmR.put3 {w W : World} {b o1 o2 : Nat} {d a c : Or.P3} (h : NmR w W b o1 o2 d a c) (hb : b < w.heap.size) (v0 v1 v2 : Value) : NmR w (((W.setCell ⟨w.heap.size + 1, 0, none⟩ v0).setCell ⟨w.heap.size + 1, 1, none⟩ v1).setCell ⟨w.heap.size + 1, 2, none⟩ v2) b o1 o2 d a c :=
  ⟨(o3row (show w.heap.size ≠ w.heap.size + 1 by omega)).trans h.d, b3row h.w (by omega), h.a.put3 (by omega) _ _ _, h.c.put3 (by omega) _ _ _⟩
theorem NmR.t {w W : World} {b o1 o2 : Nat} {dx dy dz ax ay az cx cy cz : Int} (h : NmR w W b o1 o2 ⟨dx, dy, dz⟩ ⟨ax, ay, az⟩ ⟨cx, cy, cz⟩) :
    W.cell? ⟨w.heap.size, 0, none⟩ = some (.int .i64 dx) ∧ W.cell? ⟨w.heap.size, 1, none⟩ = some (.int .i64 dy) ∧ W.cell? ⟨w.heap.size, 2, none⟩ = some (.int .i64 dz) ∧
    W.cell? ⟨b, o1, none⟩ = some (.int .i64 ax) ∧ W.cell? ⟨b, o1 + 1, none⟩ = some (.int .i64 ay) ∧ W.cell? ⟨b, o1 + 2, none⟩ = some (.int .i64 az) ∧ W.cell? ⟨b, o2, none⟩ = some (.int .i64 cx) ∧ W.cell? ⟨b, o2 + 1, none⟩ = some (.int .i64 cy) ∧ W.cell? ⟨b, o2 + 2, none⟩ = some (.int .i64 cz) ∧
    NmR w W b o1 o2 ⟨dx, dy, dz⟩ ⟨ax, ay, az⟩ ⟨cx, cy, cz⟩ :=
  ⟨(c3row h.d).1, (c3row h.d).2.1, (c3row h.d).2.2, h.a.c0, h.a.c1, h.a.c2, h.c.c0, h.c.c1, h.c.c2, h⟩
set_option maxRecDepth 100000 in
set_option maxHeartbeats 2000000 in
theorem rNormal_c {v : Value} (ls : List Or.P3) (d : Or.P3) (i j : Nat) (w : World) (S : SlX w v ls) (hin : ∀ p ∈ ls, InS p) (hd : InS d) (hi : i < ls.length) (hj : j < ls.length) :
    Calls Tryz.prog 159 #[v, spV d, .int .i64 (i : Int), .int .i64 (j : Int)] w (Ret w (spV (nrm ls d i j))) := by
  refine S.cases _ ?_ ?_
  · rintro a cap rfl rfl
    simp at hi
  rintro b off cap rfl hp hR hb
  have HL := Lib.hid (fun W => rLess_c (Or.at_ ls j) (Or.at_ ls i) 100000 100000 W (Bd.of (hin _ (Or.at_mem hj))) (Bd.of (hin _ (Or.at_mem hi))) (by decide))
  have HC := Lib.hid (show ∀ W, Calls Tryz.prog 59 #[spV d, spV (Or.sub (Or.at_ ls j) (Or.at_ ls i))] W (Ret W (spV (nrm ls d i j))) from fun W => rVector_c d (Or.sub (Or.at_ ls j) (Or.at_ ls i)) 100000 200000 W (Bd.of hd) ((Bd.of (hin _ (Or.at_mem hj))).sub (Bd.of (hin _ (Or.at_mem hi))) (by decide)) (by decide))
  have hA := bx2 w (.cells #[.int .i64 d.x, .int .i64 d.y, .int .i64 d.z] 52) (.cells #[.int .i64 0, .int .i64 0, .int .i64 0] 52)
  have hRow := new2 w (.cells #[.int .i64 d.x, .int .i64 d.y, .int .i64 d.z] 52) (.cells #[.int .i64 0, .int .i64 0, .int .i64 0] 52)
  have HBB := Lib.hid hb
  have hM : NmR w ((w.alloc (.cells #[.int .i64 d.x, .int .i64 d.y, .int .i64 d.z] 52)).alloc (.cells #[.int .i64 0, .int .i64 0, .int .i64 0] 52)) b (off + i * 3) (off + j * 3) d (Or.at_ ls i) (Or.at_ ls j) :=
    ⟨keepD (heap_alloc_new w _) (below_al _ _), hA, (hR.later hA hb).spAt hi, (hR.later hA hb).spAt hj⟩
  have i0 : (0 : Int) ≤ (i : Int) := by omega
  have i1 : (i : Int) < (ls.length : Int) := by omega
  have j0 : (0 : Int) ≤ (j : Int) := by omega
  have j1 : (j : Int) < (ls.length : Int) := by omega
  generalize nrm ls d i j = n at *
  generalize Or.sub (Or.at_ ls j) (Or.at_ ls i) = q at *
  generalize Or.at_ ls i = a at *
  generalize Or.at_ ls j = c at *
  obtain ⟨ax, ay, az⟩ := a
  obtain ⟨cx, cy, cz⟩ := c
  obtain ⟨qx, qy, qz⟩ := q
  obtain ⟨nx, ny, nz⟩ := n
  obtain ⟨dx, dy, dz⟩ := d
  simp only at hM hRow
  have HM := Lib.hid hM
  have HRW := Lib.hid hRow
  clear hM hRow hA hR hb hp hin hd S
  go_enter Tryz.func159, Tryz.ntmps159
  go_wp2_with fail
  generalize (w.alloc (.cells #[.int .i64 dx, .int .i64 dy, .int .i64 dz] 52)).alloc (.cells #[.int .i64 0, .int .i64 0, .int .i64 0] 52) = W0 at *
  obtain ⟨z0, z1, z2⟩ := c3row HRW.out
  have hf := fun k => free_row HRW.out k
  go_region_held3 (fun w' => w'.cell? ⟨w.heap.size, 0, none⟩ = some (.int .i64 dx) ∧ w'.cell? ⟨w.heap.size, 1, none⟩ = some (.int .i64 dy) ∧ w'.cell? ⟨w.heap.size, 2, none⟩ = some (.int .i64 dz) ∧
      w'.cell? ⟨b, off + i * 3, none⟩ = some (.int .i64 ax) ∧ w'.cell? ⟨b, off + i * 3 + 1, none⟩ = some (.int .i64 ay) ∧ w'.cell? ⟨b, off + i * 3 + 2, none⟩ = some (.int .i64 az) ∧ w'.cell? ⟨b, off + j * 3, none⟩ = some (.int .i64 cx) ∧ w'.cell? ⟨b, off + j * 3 + 1, none⟩ = some (.int .i64 cy) ∧ w'.cell? ⟨b, off + j * 3 + 2, none⟩ = some (.int .i64 cz) ∧
      NmR w w' b (off + i * 3) (off + j * 3) ⟨dx, dy, dz⟩ ⟨ax, ay, az⟩ ⟨cx, cy, cz⟩)
    (first | with_reducible exact (J2.put3 HBB.out _ _ _).t | with_reducible exact J2.t | with_reducible exact J1.t | with_reducible exact HM.out.t | with_reducible exact HM.out.drew.t)
    (first
      | (go_at_call 58; (with_reducible refine (HL.out _).mono ?_); rintro e w4 ⟨rfl, hb4⟩; (first | ((with_reducible have J1 := HM.out.drew.later hb4); have R1 := (hb4.block _ (Array.getElem?_eq_some_iff.1 HRW.out).1).trans HRW.out) | ((with_reducible have J1 := HM.out.later hb4); have R1 := keepD HRW.out hb4)))
      | (go_at_call 59; (with_reducible refine (HC.out _).mono ?_); rintro e w5 ⟨rfl, hb5⟩; have J2 := J1.later hb5; have R2 := keepD R1 hb5; obtain ⟨y0, y1, y2⟩ := c3row R2; have hf2 := (fun k => free_row R2 k))
      | fail)
  all_goals
    go_wp2
    refine bodyPost_ret (results_cell_row rfl _ _ (w.heap.size + 1) 52 #[.int .i64 nx, .int .i64 ny, .int .i64 nz] (0, 0) _ (by kernel_rfl) (s3row R2) Tryz.underlying52 rfl (by kernel_rfl)) rfl ?_
    exact ⟨rfl, b3row J2.w (by omega)⟩
/-- What a round of heights reads. -/
structure HtR (W0 W : World) (gn b o1 o2 : Nat) (n a p : Or.P3) : Prop where
  n : SpAt W gn 0 n
  a : SpAt W b o1 a
  p : SpAt W b o2 p
  w : Below W0.heap.size W0 W
theorem HtR.drew {W0 W : World} {gn b o1 o2 : Nat} {n a p : Or.P3} (h : HtR W0 W gn b o1 o2 n a p) : HtR W0 W.drew gn b o1 o2 n a p := ⟨h.n.drew, h.a.drew, h.p.drew, h.w.drew⟩
theorem HtR.later {W0 W W' : World} {gn b o1 o2 : Nat} {n a p : Or.P3} (h : HtR W0 W gn b o1 o2 n a p) (hb : Below W.heap.size W W') : HtR W0 W' gn b o1 o2 n a p := ⟨h.n.later hb, h.a.later hb, h.p.later hb, h.w.nx hb⟩
theorem SpAt.app {W0 W W' : World} {b o : Nat} {p : Or.P3} (h : SpAt W b o p) (h1 : b < W0.heap.size) (hb : Below W0.heap.size W W') : SpAt W' b o p :=
  ⟨by rw [hb.cell (p := ⟨b, o, none⟩) h1]; exact h.c0, by rw [hb.cell (p := ⟨b, o + 1, none⟩) h1]; exact h.c1, by rw [hb.cell (p := ⟨b, o + 2, none⟩) h1]; exact h.c2⟩
theorem HtR.app {W0 W W' : World} {gn b o1 o2 : Nat} {n a p : Or.P3} (h : HtR W0 W gn b o1 o2 n a p) (h1 : gn < W0.heap.size) (h2 : b < W0.heap.size) (hb : Below W0.heap.size W W') : HtR W0 W' gn b o1 o2 n a p :=
  ⟨h.n.app h1 hb, h.a.app h2 hb, h.p.app h2 hb, h.w.trans hb⟩
theorem HtR.t {W0 W : World} {gn b o1 o2 : Nat} {nx ny nz ax ay az px py pz : Int} (h : HtR W0 W gn b o1 o2 ⟨nx, ny, nz⟩ ⟨ax, ay, az⟩ ⟨px, py, pz⟩) :
    W.cell? ⟨gn, 0, none⟩ = some (.int .i64 nx) ∧ W.cell? ⟨gn, 1, none⟩ = some (.int .i64 ny) ∧ W.cell? ⟨gn, 2, none⟩ = some (.int .i64 nz) ∧
    W.cell? ⟨b, o1, none⟩ = some (.int .i64 ax) ∧ W.cell? ⟨b, o1 + 1, none⟩ = some (.int .i64 ay) ∧ W.cell? ⟨b, o1 + 2, none⟩ = some (.int .i64 az) ∧ W.cell? ⟨b, o2, none⟩ = some (.int .i64 px) ∧ W.cell? ⟨b, o2 + 1, none⟩ = some (.int .i64 py) ∧ W.cell? ⟨b, o2 + 2, none⟩ = some (.int .i64 pz) ∧
    HtR W0 W gn b o1 o2 ⟨nx, ny, nz⟩ ⟨ax, ay, az⟩ ⟨px, py, pz⟩ :=
  ⟨h.n.c0, by have := h.n.c1; simpa using this, by have := h.n.c2; simpa using this, h.a.c0, h.a.c1, h.a.c2, h.p.c0, h.p.c1, h.p.c2, h⟩
set_option maxRecDepth 100000 in
set_option maxHeartbeats 4000000 in
theorem rHeights_c {v : Value} (ls : List Or.P3) (n : Or.P3) (i : Nat) (w : World) (S : SlX w v ls) (hin : ∀ p ∈ ls, InS p) (hnb : Bd 40000000000 n) (hi : i < ls.length) (hn : ls.length ≤ 64) :
    Calls Tryz.prog 196 #[v, spV n, .int .i64 (i : Int)] w (fun e w' => ∃ u, e = .returned u ∧ SlX w' u (ls.map fun x => Or.dot n (Or.sub x (Or.at_ ls i))) ∧ Below w.heap.size w w') := by
  refine S.cases _ ?_ ?_
  · rintro a cap rfl rfl
    simp at hi
  rintro b off cap rfl hp hR hb
  have HLS := Lib.hid (fun k (hk : k < ls.length) W => rLess_c (Or.at_ ls k) (Or.at_ ls i) 100000 100000 W (Bd.of (hin _ (Or.at_mem hk))) (Bd.of (hin _ (Or.at_mem hi))) (by decide))
  have HTN := Lib.hid (fun k (hk : k < ls.length) W => rDotS_c n (Or.sub (Or.at_ ls k) (Or.at_ ls i)) 40000000000 200000 W hnb ((Bd.of (hin _ (Or.at_mem hk))).sub (Bd.of (hin _ (Or.at_mem hi))) (by decide)) (by decide))
  have HRR := Lib.hid (fun (W : World) (h : Below w.heap.size w W) (k : Nat) (hk : k < ls.length) => (hR.later h hb).spAt hk)
  have HFIN := Lib.hid (show (ls.take ls.length).map (fun x => Or.dot n (Or.sub x (Or.at_ ls i))) = ls.map (fun x => Or.dot n (Or.sub x (Or.at_ ls i))) by rw [List.take_length])
  have hA := below_al w (.cells #[.int .i64 n.x, .int .i64 n.y, .int .i64 n.z] 52)
  have hDm := heap_alloc_new w (.cells #[.int .i64 n.x, .int .i64 n.y, .int .i64 n.z] 52)
  have HSZ := Lib.hid (show w.heap.size < (w.alloc (.cells #[.int .i64 n.x, .int .i64 n.y, .int .i64 n.z] 52)).heap.size by rw [World.size_alloc]; omega)
  have HBL := Lib.hid hb
  have i0 : (0 : Int) ≤ (i : Int) := by omega
  have i1 : (i : Int) < (ls.length : Int) := by omega
  generalize hF : (fun x => Or.dot n (Or.sub x (Or.at_ ls i))) = F at *
  have HSN := Lib.hid (fun k (hk : k < ls.length) => take_snocS hk F)
  have HDF := Lib.hid (fun x => show Or.dot n (Or.sub x (Or.at_ ls i)) = F x by rw [← hF])
  have hai := fun (W : World) (h : Below w.heap.size w W) => HRR.out W h i hi
  have HAI := Lib.hid hai
  generalize hat : Or.at_ ls i = a at *
  obtain ⟨nx, ny, nz⟩ := n
  obtain ⟨ax, ay, az⟩ := a
  simp only at hA hDm HSZ
  clear hin hR S hF hnb hai hat hp
  go_enter Tryz.func196, Tryz.ntmps196
  go_wp2_with fail
  generalize w.alloc (.cells #[.int .i64 nx, .int .i64 ny, .int .i64 nz] 52) = W0 at *
  have HDA := Lib.hid (show SpAt W0 w.heap.size 0 ⟨nx, ny, nz⟩ from ⟨(by rw [cell_of_row _ _ _ _ _ _ hDm]; rfl), (by rw [cell_of_row _ _ _ _ _ _ hDm]; rfl), (by rw [cell_of_row _ _ _ _ _ _ hDm]; rfl)⟩)
  clear hDm
  go_loopw [7, 8] (fun sv si wr => ∃ k : Nat, si = .int .i64 (k : Int) ∧ k ≤ ls.length ∧ Hid (OwX 3 wr W0.heap.size sv ((ls.take k).map F)) ∧ Hid (Below W0.heap.size W0 wr)) (fun _ si _ => ls.length - (intOf si).toNat)
  case atStart => exact ⟨0, rfl, Nat.zero_le _, OwX.nil _ _ _, Below.refl _ _⟩
  case round =>
    obtain ⟨k, rfl, hk, hO, hB⟩ := hrel
    by_cases hlt : k < ls.length
    · have HM : HtR W0 wr w.heap.size b (off + i * 3) (off + k * 3) ⟨nx, ny, nz⟩ ⟨ax, ay, az⟩ (Or.at_ ls k) := ⟨HDA.out.later hB.out, HAI.out _ (hA.nx hB.out), HRR.out _ (hA.nx hB.out) k hlt, hB.out⟩
      have hls := HLS.out k hlt
      have hdf := HDF.out (Or.at_ ls k)
      have htn := HTN.out k hlt
      rw [hdf] at htn
      have HSS := Lib.hid (HSN.out k hlt)
      clear hdf
      generalize Or.sub (Or.at_ ls k) ⟨ax, ay, az⟩ = q at *
      generalize Or.at_ ls k = p at *
      generalize F p = m at *
      obtain ⟨px, py, pz⟩ := p
      obtain ⟨qx, qy, qz⟩ := q
      have HLS2 := Lib.hid hls
      have HT := Lib.hid htn
      obtain ⟨n0, n1, n2, a0, a1, a2, p0, p1, p2, -⟩ := HM.t
      have HM := Lib.hid HM
      have HL1 := Lib.hid (show ((ls.take k).map F).length + 1 ≤ 1000 by rw [List.length_map, List.length_take]; omega)
      have HB0 := Lib.hid HSZ.out
      have HB1 := Lib.hid (show b < W0.heap.size by have := HSZ.out; have := HBL.out; omega)
      have k0 : (0 : Int) ≤ (k : Int) := by omega
      have k1 : (k : Int) < (ls.length : Int) := by omega
      clear hls htn
      go_wp2_with fail
      go_region_held3 (fun w' => w'.cell? ⟨w.heap.size, 0, none⟩ = some (.int .i64 nx) ∧ w'.cell? ⟨w.heap.size, 1, none⟩ = some (.int .i64 ny) ∧ w'.cell? ⟨w.heap.size, 2, none⟩ = some (.int .i64 nz) ∧ w'.cell? ⟨b, off + i * 3, none⟩ = some (.int .i64 ax) ∧ w'.cell? ⟨b, off + i * 3 + 1, none⟩ = some (.int .i64 ay) ∧ w'.cell? ⟨b, off + i * 3 + 2, none⟩ = some (.int .i64 az) ∧ w'.cell? ⟨b, off + k * 3, none⟩ = some (.int .i64 px) ∧ w'.cell? ⟨b, off + k * 3 + 1, none⟩ = some (.int .i64 py) ∧ w'.cell? ⟨b, off + k * 3 + 2, none⟩ = some (.int .i64 pz) ∧ HtR W0 w' w.heap.size b (off + i * 3) (off + k * 3) ⟨nx, ny, nz⟩ ⟨ax, ay, az⟩ ⟨px, py, pz⟩)
        (first | exact J4.t | exact J3.t | exact J2.t | exact J1.t | exact HM.out.t | exact HM.out.drew.t)
        (first
          | (go_at_call 58; (with_reducible refine (HLS2.out _).mono ?_); rintro e w1 ⟨rfl, hb1⟩; (first | (have J1 := HM.out.drew.later hb1; have O1 := (hO.out.later (Below.refl _ wr).drew).later hb1) | (have J1 := HM.out.later hb1; have O1 := hO.out.later hb1)))
          | (go_at_call 143; (with_reducible refine (HT.out _).mono ?_); rintro e w2 ⟨rfl, hb2⟩; have J2 := J1.later hb2; have J3 := J2.later (below_al w2 (.cells #[.int .i64 m] 3)); have HO2 := Lib.hid ((O1.later hb2).later (below_al w2 (.cells #[.int .i64 m] 3))); have HS2 := Lib.hid J3.w.size; clear O1)
          | (refine step_app_row _ (by rfl) _ _ 149 3 (by rfl) Tryz.underlying149 intZ 8 (by decide) (by kernel_rfl) rfl W0.heap.size _ ((ls.take k).map F) (by rfl) HO2.out w2.heap.size (m : Int) (by rfl) (new_int w2 m 3) (by have := HL1.out; omega) HS2.out ?_; intro gg cap w3 hO1 hb3; have J4 := J3.app HB0.out HB1.out hb3; have HO1 := Lib.hid hO1; clear hO1)
          | fail)
      all_goals
        have HO3 := Lib.hid HO1.out
        rw [show ((ls.take k).map F).length = k by rw [List.length_map, List.length_take]; omega, ← HSS.out] at HO3
        have HJ := Lib.hid J4
        clear J1 J2 J3 J4 HO1 HO2 HS2 hb1 hb2 hb3 HM hO hB
        go_wp2
        go_roundw
        case rel => exact ⟨k + 1, by go_num, by omega, HO3.out, HJ.out.w⟩
        case measure => simp [intOf]; omega
    · obtain rfl : k = ls.length := by omega
      have HO := Lib.hid hO.out
      rw [HFIN.out] at HO
      have HBW := Lib.hid (hA.nx hB.out)
      clear hO hB HRR HTN HSN
      go_wp2
      go_ret
      exact ⟨_, rfl, HO.out.sl, HBW.out⟩
end Go.Proofs.Wk
/- SQUARENESS: what stands on a pair, in the reference. -/
namespace Go.Proofs.Wk
open Go.RowKit Mt

def standV (ls : List Or.P3) (d : Or.P3) (i j : Nat) : Value := if Or.okS ls d i j = true then .tuple #[.string ⟨(rtoa (Or.sv ls d (Or.sup ls d i j))).toArray⟩, .int .i64 ((Or.sup ls d i j).at' : Int), .bool true] else .tuple #[.string ⟨#[]⟩, .int .i64 0, .bool false]
structure SnM (w W : World) (d n : Or.P3) (g1 : Nat) : Prop where
  d : W.heap[w.heap.size]? = some (.cells #[.int .i64 d.x, .int .i64 d.y, .int .i64 d.z] 52 (0, 0))
  n : W.heap[g1]? = some (.cells #[.int .i64 n.x, .int .i64 n.y, .int .i64 n.z] 52 (0, 0))
  w : Below w.heap.size w W
theorem SnM.later {w W W' : World} {d n : Or.P3} {g1 : Nat} (h : SnM w W d n g1) (hb : Below W.heap.size W W') : SnM w W' d n g1 := ⟨keepD h.d hb, keepD h.n hb, h.w.nx hb⟩
structure SnR (w W : World) (n : Or.P3) (g1 g2 a0 a1 : Nat) : Prop where
  n : W.heap[g1]? = some (.cells #[.int .i64 n.x, .int .i64 n.y, .int .i64 n.z] 52 (0, 0))
  a : W.heap[g2]? = some (.cells #[.int .i64 (a0 : Int), .int .i64 (a1 : Int)] 44 (0, 0))
  w : Below w.heap.size w W
theorem SnR.later {w W W' : World} {n : Or.P3} {g1 g2 a0 a1 : Nat} (h : SnR w W n g1 g2 a0 a1) (hb : Below W.heap.size W W') : SnR w W' n g1 g2 a0 a1 := ⟨keepD h.n hb, keepD h.a hb, h.w.nx hb⟩
theorem SnR.drew {w W : World} {n : Or.P3} {g1 g2 a0 a1 : Nat} (h : SnR w W n g1 g2 a0 a1) : SnR w W.drew n g1 g2 a0 a1 := ⟨h.n, h.a, h.w.drew⟩
theorem SnR.t {w W : World} {nx ny nz : Int} {g1 g2 a0 a1 : Nat} (h : SnR w W ⟨nx, ny, nz⟩ g1 g2 a0 a1) : W.cell? ⟨g1, 0, none⟩ = some (.int .i64 nx) ∧ W.cell? ⟨g1, 1, none⟩ = some (.int .i64 ny) ∧ W.cell? ⟨g1, 2, none⟩ = some (.int .i64 nz) ∧
    W.cell? ⟨g2, 0, none⟩ = some (.int .i64 (a0 : Int)) ∧ W.cell? ⟨g2, 1, none⟩ = some (.int .i64 (a1 : Int)) ∧ SnR w W ⟨nx, ny, nz⟩ g1 g2 a0 a1 :=
  ⟨(c3row h.n).1, (c3row h.n).2.1, (c3row h.n).2.2, (c2row h.a).1, (c2row h.a).2, h⟩
theorem sv_sup (ls : List Or.P3) (d : Or.P3) (i j : Nat) : Or.sv ls d (Or.sup ls d i j) = Rat.divInt ((Or.sup ls d i j).far * (Or.sup ls d i j).far) (Or.dot (nrm ls d i j) (nrm ls d i j)) := by
  unfold Or.sv Or.sq
  rw [(Or.sup_ij ls d i j).1, (Or.sup_ij ls d i j).2]; rfl
theorem sv_sqd (ls : List Or.P3) (d : Or.P3) (i j : Nat) : sqd (Or.sup ls d i j).far (nrm ls d i j) = Or.sv ls d (Or.sup ls d i j) := (sv_sup ls d i j).symm
theorem dot_nz {n : Or.P3} (h : n ≠ ⟨0, 0, 0⟩) : Or.dot n n ≠ 0 := by have := Or.dot_pos h; omega
set_option maxRecDepth 100000 in
set_option maxHeartbeats 4000000 in
theorem rStands_c {v : Value} (ls : List Or.P3) (d : Or.P3) (i j : Nat) (w : World) (S : SlX w v ls) (hin : ∀ p ∈ ls, InS p) (hd : InS d) (hi : i < ls.length) (hj : j < ls.length) (hn : ls.length ≤ 64) :
    Calls Tryz.prog 148 #[v, spV d, .int .i64 (i : Int), .int .i64 (j : Int)] w (Ret w (standV ls d i j)) := by
  have HNM := Lib.hid (fun W (h : Below w.heap.size w W) => rNormal_c ls d i j W (S.later h) hin hd hi hj)
  have HHT := Lib.hid (show ∀ W, Below w.heap.size w W → Calls Tryz.prog 196 #[v, spV (nrm ls d i j), .int .i64 (i : Int)] W (fun e w' => ∃ u, e = .returned u ∧ SlX w' u (Or.hts ls d i j) ∧ Below W.heap.size W w') from fun W h => rHeights_c ls (nrm ls d i j) i W (S.later h) hin (nrm_bd hd hin hi hj) hi hn)
  have HEN := Lib.hid (show ∀ u W, SlX W u (Or.hts ls d i j) → Calls Tryz.prog 190 #[u] W (Ret W (edV (Or.eds ls d i j))) from fun u W U => rEndI_c (Or.hts ls d i j) W U (by unfold Or.hts; rw [List.length_map]; omega) (by unfold Or.hts; rw [List.length_map]; omega))
  have HLG := Lib.hid (fun W => rLongS_c (nrm ls d i j) W ((nrm_bd hd hin hi hj).mono (by decide)))
  have hbd := eds_bd hd hin hi hj
  have HSQ := Lib.hid (fun (n : Int) W (hn : -24000000000000000 ≤ n ∧ n ≤ 24000000000000000) (h : nrm ls d i j ≠ ⟨0, 0, 0⟩) => rSquare_c n (Or.dot (nrm ls d i j) (nrm ls d i j)) W (by omega) (Nat.le_trans (lng_dotV ((nrm_bd hd hin hi hj).mono (by decide))) (by decide)) (dot_nz h))
  have hA := below_al w (.cells #[.int .i64 d.x, .int .i64 d.y, .int .i64 d.z] 52)
  have hz := heap_alloc_new w (.cells #[.int .i64 d.x, .int .i64 d.y, .int .i64 d.z] 52)
  have hne : ¬ (nrm ls d i j = ⟨0, 0, 0⟩) → Or.okS ls d i j = !(decide ((Or.eds ls d i j).low < 0) && decide (0 < (Or.eds ls d i j).high)) := fun h => by
    unfold Or.okS
    rw [decide_eq_true (show Or.crs d (Or.sub (Or.at_ ls j) (Or.at_ ls i)) ≠ ⟨0, 0, 0⟩ from h), Bool.true_and]
  have heq : nrm ls d i j = ⟨0, 0, 0⟩ → Or.okS ls d i j = false := fun h => by
    unfold Or.okS
    rw [decide_eq_false (show ¬ Or.crs d (Or.sub (Or.at_ ls j) (Or.at_ ls i)) ≠ ⟨0, 0, 0⟩ from fun q => q h), Bool.false_and]
  have hsp : Or.sup ls d i j = if (Or.eds ls d i j).low < 0 then ⟨i, j, (Or.eds ls d i j).low, (Or.eds ls d i j).a0⟩ else ⟨i, j, (Or.eds ls d i j).high, (Or.eds ls d i j).a1⟩ := rfl
  have pz : ∀ n : Or.P3, ((n.x == 0) && ((n.y == 0) && (n.z == 0))) = decide (n = ⟨0, 0, 0⟩) := fun n => sp_beq n ⟨0, 0, 0⟩
  have hrv : standV ls d i j = if Or.okS ls d i j = true then .tuple #[.string ⟨(rtoa (Or.sv ls d (Or.sup ls d i j))).toArray⟩, .int .i64 ((Or.sup ls d i j).at' : Int), .bool true] else .tuple #[.string ⟨#[]⟩, .int .i64 0, .bool false] := rfl
  rw [sv_sup] at hrv
  generalize standV ls d i j = RV at *
  generalize Or.sup ls d i j = SS at *
  generalize Or.okS ls d i j = OK at *
  generalize Or.eds ls d i j = E at *
  generalize Or.hts ls d i j = HTS at *
  generalize nrm ls d i j = n at *
  generalize Or.dot n n = D at *
  obtain ⟨sa, cap, rfl⟩ := S.lenS
  obtain ⟨low, high, a0, a1⟩ := E
  obtain ⟨dx, dy, dz⟩ := d
  simp only at hz hA hne hsp HEN hbd
  have hpz := pz n
  obtain ⟨nx, ny, nz⟩ := n
  simp only at hpz
  have pe := fun W => sp_eql nx ny nz 0 0 0 W
  have HNE := Lib.hid hne
  have HEQ := Lib.hid heq
  have HSP := Lib.hid hsp
  have HBD := Lib.hid hbd
  have HRV := Lib.hid hrv
  have HPZ := Lib.hid hpz
  have HZ := Lib.hid hz
  have HA := Lib.hid hA
  clear hz hA hin hd S hne heq hsp hrv hn pz hpz hbd hi hj
  go_enter Tryz.func148, Tryz.ntmps148
  go_wp2_with fail
  generalize w.alloc (.cells #[.int .i64 dx, .int .i64 dy, .int .i64 dz] 52) = W0 at *
  obtain ⟨k0, k1, k2⟩ := c3row HZ.out
  go_wp2_with fail
  ((with_reducible refine (HNM.out _ HA.out).mono ?_); rintro e w1 ⟨rfl, hb1⟩)
  have HS1 := Lib.hid (show SnM w (w1.alloc (.cells #[.int .i64 nx, .int .i64 ny, .int .i64 nz] 52)) ⟨dx, dy, dz⟩ ⟨nx, ny, nz⟩ w1.heap.size from ⟨keepD (keepD HZ.out hb1) (below_al _ _), heap_alloc_new w1 _, (HA.out.nx hb1).nx (below_al _ _)⟩)
  clear k0 k1 k2 hb1 HNM HZ HA
  go_wp2_with fail
  generalize w1.alloc (.cells #[.int .i64 nx, .int .i64 ny, .int .i64 nz] 52) = W1 at *
  generalize w1.heap.size = g1 at *
  obtain ⟨k0, k1, k2⟩ := c3row HS1.out.n
  go_wp2_with fail
  ((with_reducible refine (HHT.out _ HS1.out.w).mono ?_); rintro e w2 ⟨u, rfl, hu, hb2⟩)
  have HS2 := Lib.hid (HS1.out.later hb2)
  have HU := Lib.hid hu
  clear k0 k1 k2 hb2 HHT HS1 hu
  go_wp2_with fail
  ((with_reducible refine (HEN.out _ _ HU.out).mono ?_); rintro e w3 ⟨rfl, hb3⟩)
  have HS3 := Lib.hid (show SnR w (w3.alloc (.cells #[.int .i64 (a0 : Int), .int .i64 (a1 : Int)] 44)) ⟨nx, ny, nz⟩ g1 w3.heap.size a0 a1 from ⟨keepD (HS2.out.later hb3).n (below_al _ _), heap_alloc_new w3 _, (HS2.out.later hb3).w.nx (below_al _ _)⟩)
  clear hb3 HEN HS2 HU
  go_upto_region 3 with fail
  generalize w3.alloc (.cells #[.int .i64 (a0 : Int), .int .i64 (a1 : Int)] 44) = W3 at *
  generalize w3.heap.size = g2 at *
  obtain ⟨k0, k1, k2, k3, k4, -⟩ := HS3.out.t
  by_cases h0 : (⟨nx, ny, nz⟩ : Or.P3) = ⟨0, 0, 0⟩
  · have h1 := HPZ.out
    rw [decide_eq_true h0] at h1
    rw [h1] at pe
    obtain rfl := HRV.out.trans (if_neg (by rw [HEQ.out h0]; simp))
    clear HRV
    clear HNE HEQ HSP HPZ h1 h0
    go_wp2
    go_ret3
    exact ⟨rfl, HS3.out.w⟩
  · have h1 := HPZ.out
    rw [decide_eq_false h0] at h1
    rw [h1] at pe
    have hok := HNE.out h0
    have HSQL := Lib.hid (fun W => HSQ.out low W HBD.out.1 h0)
    have HSQH := Lib.hid (fun W => HSQ.out high W HBD.out.2 h0)
    clear HSQ HNE HEQ HPZ h1 h0
    by_cases hl : low < 0
    · by_cases hh : 0 < high
      · rw [decide_eq_true hl, decide_eq_true hh] at hok
        obtain rfl := HRV.out.trans (if_neg (by rw [hok]; simp))
        clear hok HRV
        go_wp2
        go_ret3
        exact ⟨rfl, HS3.out.w⟩
      · rw [decide_eq_false hh, Bool.and_false, Bool.not_false] at hok
        have hsp := HSP.out
        rw [if_pos hl] at hsp
        have hrv := HRV.out
        rw [if_pos hok, hsp] at hrv
        simp only at hrv
        subst hrv
        clear HRV hok hsp HSP HSQH HBD
        generalize rtoa (Rat.divInt (low * low) D) = R at *
        generalize Lib.itoa D = TD at *
        go_wp2_with fail
        go_region_held3 (fun w' => w'.cell? ⟨g1, 0, none⟩ = some (.int .i64 nx) ∧ w'.cell? ⟨g1, 1, none⟩ = some (.int .i64 ny) ∧ w'.cell? ⟨g1, 2, none⟩ = some (.int .i64 nz) ∧ w'.cell? ⟨g2, 0, none⟩ = some (.int .i64 (a0 : Int)) ∧ w'.cell? ⟨g2, 1, none⟩ = some (.int .i64 (a1 : Int)) ∧ SnR w w' ⟨nx, ny, nz⟩ g1 g2 a0 a1)
          (first | exact J2.t | exact J1.t | exact HS3.out.t | exact HS3.out.drew.t)
          (first
            | (go_at_call 161; (with_reducible refine (HLG.out _).mono ?_); rintro e w4 ⟨rfl, hb4⟩; (first | (have J1 := HS3.out.drew.later hb4) | (have J1 := HS3.out.later hb4)))
            | (go_at_call 160; (with_reducible refine (HSQL.out _).mono ?_); rintro e w5 ⟨rfl, hb5⟩; have J2 := J1.later hb5)
            | fail)
        all_goals
          go_wp2
          go_ret3
          exact ⟨rfl, J2.w⟩
    · rw [decide_eq_false hl, Bool.false_and, Bool.not_false] at hok
      have hsp := HSP.out
      rw [if_neg hl] at hsp
      have hrv := HRV.out
      rw [if_pos hok, hsp] at hrv
      simp only at hrv
      subst hrv
      clear HRV hok hsp HSP HSQL HBD
      generalize rtoa (Rat.divInt (high * high) D) = R at *
      generalize Lib.itoa D = TD at *
      go_wp2_with fail
      go_region_held3 (fun w' => w'.cell? ⟨g1, 0, none⟩ = some (.int .i64 nx) ∧ w'.cell? ⟨g1, 1, none⟩ = some (.int .i64 ny) ∧ w'.cell? ⟨g1, 2, none⟩ = some (.int .i64 nz) ∧ w'.cell? ⟨g2, 0, none⟩ = some (.int .i64 (a0 : Int)) ∧ w'.cell? ⟨g2, 1, none⟩ = some (.int .i64 (a1 : Int)) ∧ SnR w w' ⟨nx, ny, nz⟩ g1 g2 a0 a1)
        (first | exact J2.t | exact J1.t | exact HS3.out.t | exact HS3.out.drew.t)
        (first
          | (go_at_call 161; (with_reducible refine (HLG.out _).mono ?_); rintro e w4 ⟨rfl, hb4⟩; (first | (have J1 := HS3.out.drew.later hb4) | (have J1 := HS3.out.later hb4)))
          | (go_at_call 160; (with_reducible refine (HSQH.out _).mono ?_); rintro e w5 ⟨rfl, hb5⟩; have J2 := J1.later hb5)
          | fail)
      all_goals
        go_wp2
        go_ret3
        exact ⟨rfl, J2.w⟩
end Go.Proofs.Wk
