/- RESULTS OF WHICH ONE IS A STRUCT OR AN ARRAY. -/
import Derived.Test.YtenoganbeccanaaGreatDoorBase
import Derived.Test.YtenoganbeccanaaGreatDoorND
import Derived.Test.YtenoganbeccanaaGreatDoorHI
import Derived.Test.YtenoganbeccanaaGreatDoorHE
import Derived.Test.YtenoganbeccanaaGreatDoorHH
import Derived.Deep.RegionHeld3
import Derived.Laws.StructEq
namespace Go.Proofs.Wk
open Go.RowKit

section
variable {P : Program} {fn : Func} {t u v p : Tmp} {ty : TypeId} {tmps : Array Value} {w : World} {g : Nat} {T : TypeId} {cs : Array Value} {fr : Nat × Nat} {d : TypeDesc}
theorem res_ct (h : fn.results = #[.cell p ty, .tmp u]) (hp : tmps.getD p undef = .pointer (some ⟨g, 0, none⟩)) (hg : w.heap[g]? = some (.cells cs T fr))
    (hu : P.underlying ty = some d) (hd : (match d with | .struct _ | .array _ _ => true | _ => false) = true) (hi : (P.info? ty).map (·.size) = some cs.size) {x : Value} (hx : tmps.getD u undef = x) :
    (results fn tmps).run P w = .ok (.tuple #[.agg cs, x]) w := by
  rw [Array.getD_eq_getD_getElem?] at hp hx
  simp [results, h, hp, hx, asAddr, Result.andThen, run_loadVar_row w g T ty cs fr d hg hu hd hi]
theorem res_tc (h : fn.results = #[.tmp u, .cell p ty]) (hp : tmps.getD p undef = .pointer (some ⟨g, 0, none⟩)) (hg : w.heap[g]? = some (.cells cs T fr))
    (hu : P.underlying ty = some d) (hd : (match d with | .struct _ | .array _ _ => true | _ => false) = true) (hi : (P.info? ty).map (·.size) = some cs.size) {x : Value} (hx : tmps.getD u undef = x) :
    (results fn tmps).run P w = .ok (.tuple #[x, .agg cs]) w := by
  rw [Array.getD_eq_getD_getElem?] at hp hx
  simp [results, h, hp, hx, asAddr, Result.andThen, run_loadVar_row w g T ty cs fr d hg hu hd hi]
theorem res_tct (h : fn.results = #[.tmp u, .cell p ty, .tmp t]) (hp : tmps.getD p undef = .pointer (some ⟨g, 0, none⟩)) (hg : w.heap[g]? = some (.cells cs T fr))
    (hu : P.underlying ty = some d) (hd : (match d with | .struct _ | .array _ _ => true | _ => false) = true) (hi : (P.info? ty).map (·.size) = some cs.size) {x y : Value} (hx : tmps.getD u undef = x) (hy : tmps.getD t undef = y) :
    (results fn tmps).run P w = .ok (.tuple #[x, .agg cs, y]) w := by
  rw [Array.getD_eq_getD_getElem?] at hp hx hy
  simp [results, h, hp, hx, hy, asAddr, Result.andThen, run_loadVar_row w g T ty cs fr d hg hu hd hi]
theorem res_tctt (h : fn.results = #[.tmp u, .cell p ty, .tmp t, .tmp v]) (hp : tmps.getD p undef = .pointer (some ⟨g, 0, none⟩)) (hg : w.heap[g]? = some (.cells cs T fr))
    (hu : P.underlying ty = some d) (hd : (match d with | .struct _ | .array _ _ => true | _ => false) = true) (hi : (P.info? ty).map (·.size) = some cs.size) {x y z : Value} (hx : tmps.getD u undef = x) (hy : tmps.getD t undef = y) (hz : tmps.getD v undef = z) :
    (results fn tmps).run P w = .ok (.tuple #[x, .agg cs, y, z]) w := by
  rw [Array.getD_eq_getD_getElem?] at hp hx hy hz
  simp [results, h, hp, hx, hy, hz, asAddr, Result.andThen, run_loadVar_row w g T ty cs fr d hg hu hd hi]
end
/-! ### Cells of rows that are known whole -/
theorem _root_.Go.RowKit.Below.cel {B : Nat} {a w : World} (h : Below B a w) {p : Addr} (hp : B ≤ p.block) (v : Value) : Below B a (w.setCell p v) :=
  ⟨h.os, h.tape, h.output, by rw [show (w.setCell p v).heap.size = w.heap.size by simp [World.setCell]]; exact h.size, fun k hk => by rw [heap_setCell_other w p k v (by omega)]; exact h.block k hk⟩
theorem c1row {w : World} {b : Nat} {u0 : Value} {T : TypeId} {fr : Nat × Nat} (h : w.heap[b]? = some (.cells #[u0] T fr)) : w.cell? ⟨b, 0, none⟩ = some u0 := by rw [cell_of_row _ _ _ _ _ _ h]; rfl
theorem c2row {w : World} {b : Nat} {u0 u1 : Value} {T : TypeId} {fr : Nat × Nat} (h : w.heap[b]? = some (.cells #[u0, u1] T fr)) : w.cell? ⟨b, 0, none⟩ = some u0 ∧ w.cell? ⟨b, 1, none⟩ = some u1 :=
  ⟨by rw [cell_of_row _ _ _ _ _ _ h]; rfl, by rw [cell_of_row _ _ _ _ _ _ h]; rfl⟩
theorem c4row {w : World} {b : Nat} {u0 u1 u2 u3 : Value} {T : TypeId} {fr : Nat × Nat} (h : w.heap[b]? = some (.cells #[u0, u1, u2, u3] T fr)) :
    w.cell? ⟨b, 0, none⟩ = some u0 ∧ w.cell? ⟨b, 1, none⟩ = some u1 ∧ w.cell? ⟨b, 2, none⟩ = some u2 ∧ w.cell? ⟨b, 3, none⟩ = some u3 :=
  ⟨by rw [cell_of_row _ _ _ _ _ _ h]; rfl, by rw [cell_of_row _ _ _ _ _ _ h]; rfl, by rw [cell_of_row _ _ _ _ _ _ h]; rfl, by rw [cell_of_row _ _ _ _ _ _ h]; rfl⟩
theorem s1row {w : World} {g : Nat} {u0 v0 : Value} {T : TypeId} (h : w.heap[g]? = some (.cells #[u0] T (0, 0))) : (w.setCell ⟨g, 0, none⟩ v0).heap[g]? = some (.cells #[v0] T (0, 0)) := heap_setCell_same w g 0 _ _ v0 h
theorem s2row {w : World} {g : Nat} {u0 u1 v0 v1 : Value} {T : TypeId} (h : w.heap[g]? = some (.cells #[u0, u1] T (0, 0))) :
    ((w.setCell ⟨g, 0, none⟩ v0).setCell ⟨g, 1, none⟩ v1).heap[g]? = some (.cells #[v0, v1] T (0, 0)) := by
  have h0 : (w.setCell ⟨g, 0, none⟩ v0).heap[g]? = some (.cells #[v0, u1] T (0, 0)) := heap_setCell_same w g 0 _ _ v0 h
  exact heap_setCell_same _ g 1 _ _ v1 h0
theorem s4row {w : World} {g : Nat} {u0 u1 u2 u3 v0 v1 v2 v3 : Value} {T : TypeId} (h : w.heap[g]? = some (.cells #[u0, u1, u2, u3] T (0, 0))) :
    ((((w.setCell ⟨g, 0, none⟩ v0).setCell ⟨g, 1, none⟩ v1).setCell ⟨g, 2, none⟩ v2).setCell ⟨g, 3, none⟩ v3).heap[g]? = some (.cells #[v0, v1, v2, v3] T (0, 0)) := by
  have h0 : (w.setCell ⟨g, 0, none⟩ v0).heap[g]? = some (.cells #[v0, u1, u2, u3] T (0, 0)) := heap_setCell_same w g 0 _ _ v0 h
  have h1 : ((w.setCell ⟨g, 0, none⟩ v0).setCell ⟨g, 1, none⟩ v1).heap[g]? = some (.cells #[v0, v1, u2, u3] T (0, 0)) := heap_setCell_same _ g 1 _ _ v1 h0
  have h2 : (((w.setCell ⟨g, 0, none⟩ v0).setCell ⟨g, 1, none⟩ v1).setCell ⟨g, 2, none⟩ v2).heap[g]? = some (.cells #[v0, v1, v2, u3] T (0, 0)) := heap_setCell_same _ g 2 _ _ v2 h1
  exact heap_setCell_same _ g 3 _ _ v3 h2
theorem b2row {a w : World} {B g : Nat} {v0 v1 : Value} (h : Below B a w) (hg : B ≤ g) : Below B a ((w.setCell ⟨g, 0, none⟩ v0).setCell ⟨g, 1, none⟩ v1) := (h.cel hg _).cel hg _
theorem b4row {a w : World} {B g : Nat} {v0 v1 v2 v3 : Value} (h : Below B a w) (hg : B ≤ g) :
    Below B a ((((w.setCell ⟨g, 0, none⟩ v0).setCell ⟨g, 1, none⟩ v1).setCell ⟨g, 2, none⟩ v2).setCell ⟨g, 3, none⟩ v3) := (((h.cel hg _).cel hg _).cel hg _).cel hg _
theorem o2row {w : World} {g k : Nat} {v0 v1 : Value} (hk : k ≠ g) : ((w.setCell ⟨g, 0, none⟩ v0).setCell ⟨g, 1, none⟩ v1).heap[k]? = w.heap[k]? :=
  (heap_setCell_other _ _ _ _ hk).trans (heap_setCell_other _ _ _ _ hk)
theorem o4row {w : World} {g k : Nat} {v0 v1 v2 v3 : Value} (hk : k ≠ g) : ((((w.setCell ⟨g, 0, none⟩ v0).setCell ⟨g, 1, none⟩ v1).setCell ⟨g, 2, none⟩ v2).setCell ⟨g, 3, none⟩ v3).heap[k]? = w.heap[k]? :=
  (heap_setCell_other _ _ _ _ hk).trans ((heap_setCell_other _ _ _ _ hk).trans ((heap_setCell_other _ _ _ _ hk).trans (heap_setCell_other _ _ _ _ hk)))
theorem s2rowd {w : World} {g : Nat} {u0 u1 v0 v1 : Value} {T : TypeId} (h : w.heap[g]? = some (.cells #[u0, u1] T (0, 0))) :
    ((w.setCell ⟨g, 0, none⟩ v0).setCell ⟨g, 1, none⟩ v1).drew.heap[g]? = some (.cells #[v0, v1] T (0, 0)) := s2row h
theorem s4rowd {w : World} {g : Nat} {u0 u1 u2 u3 v0 v1 v2 v3 : Value} {T : TypeId} (h : w.heap[g]? = some (.cells #[u0, u1, u2, u3] T (0, 0))) :
    ((((w.setCell ⟨g, 0, none⟩ v0).setCell ⟨g, 1, none⟩ v1).setCell ⟨g, 2, none⟩ v2).setCell ⟨g, 3, none⟩ v3).drew.heap[g]? = some (.cells #[v0, v1, v2, v3] T (0, 0)) := s4row h
theorem free_row {w : World} {g : Nat} {cs : Array Value} {T : TypeId} (h : w.heap[g]? = some (.cells cs T (0, 0))) (j : Nat) : w.frozen? ⟨g, j, none⟩ = false := frozen_of_row w g j _ _ h
end Go.Proofs.Wk
/- STRAIGHTNESS: products of coordinates, in the program and in the reference. -/
namespace Go.Proofs.Wk
open Go.RowKit Mt

theorem wr {e u : Int} (q : e = u) (h : -9223372036854775808 ≤ e ∧ e ≤ 9223372036854775807) : IntKind.i64.wrap e = u := by rw [IntWalk.i64_in _ h]; exact q
/-- Two, three boxes. -/
theorem bx2 (w : World) (o1 o2 : Obj) : Below w.heap.size w ((w.alloc o1).alloc o2) := (below_al w o1).nx (below_al _ o2)
theorem bx3 (w : World) (o1 o2 o3 : Obj) : Below w.heap.size w (((w.alloc o1).alloc o2).alloc o3) := (bx2 w o1 o2).nx (below_al _ o3)
/-! ### Rational numbers of known sizes -/
theorem rtoa_int (n : Int) : rtoa (n : Rat) = Lib.itoa n := by unfold rtoa; exact if_pos rfl
theorem szQ_int {n : Int} {k : Nat} (hk : 0 < k) (h : n.natAbs < 10 ^ k) : szQ (n : Rat) k := ⟨lng_bd hk h, lng_bd hk (Nat.lt_of_lt_of_le (show 1 < 10 by decide) (Nat.pow_le_pow_right (n := 10) (by decide) hk))⟩
theorem cmpQ_lt (p q : Rat) : decide (cmpQ p q < 0) = decide (p < q) := by
  unfold cmpQ
  rw [decide_eq_decide, Rat.lt_iff]
  have := cmp_spec (p.num * q.den) (q.num * p.den)
  omega
theorem cmpQ_le (p q : Rat) : decide (cmpQ p q ≤ 0) = decide (p ≤ q) := by
  unfold cmpQ
  rw [decide_eq_decide, Rat.le_iff]
  have := cmp_spec (p.num * q.den) (q.num * p.den)
  omega
theorem cmpQ_gt (p q : Rat) : decide (0 < cmpQ p q) = decide (q < p) := by
  unfold cmpQ
  rw [decide_eq_decide, Rat.lt_iff]
  have := cmp_spec (p.num * q.den) (q.num * p.den)
  omega
theorem qMulR (p q : Rat) (w : World) (hg : Good w) (hp : szQ p 500) (hq : szQ q 500) : Calls Tryz.prog 18 #[.string ⟨(rtoa p).toArray⟩, .string ⟨(rtoa q).toArray⟩] w (Ret w (.tuple #[.string ⟨(rtoa (p * q)).toArray⟩, .int .i64 0])) := by
  have h := qMul_c (rtoa p) (rtoa q) w hg (tlen (hp.ok (by decide))) (tlen (hq.ok (by decide)))
  rw [rbin_ok _ _ (hp.ok (by decide)) (hq.ok (by decide)), mulQ_sz hp hq (by decide)] at h
  exact h
theorem qCmpR (p q : Rat) (w : World) (hg : Good w) (hp : szQ p 500) (hq : szQ q 500) : Calls Tryz.prog 41 #[.string ⟨(rtoa p).toArray⟩, .string ⟨(rtoa q).toArray⟩] w (Ret w (.tuple #[.int .i64 (cmpQ p q), .int .i64 0])) := by
  have h := qCompare_c (rtoa p) (rtoa q) w hg (tlen (hp.ok (by decide))) (tlen (hq.ok (by decide)))
  rw [rbin_ok _ _ (hp.ok (by decide)) (hq.ok (by decide)), cmpE_sz hp hq (by decide)] at h
  exact h
end Go.Proofs.Wk
/- STRAIGHTNESS: vectors in the reference. -/
namespace Go.Proofs.Wk
open Go.RowKit Mt

theorem new2 (w : World) (o1 o2 : Obj) : ((w.alloc o1).alloc o2).heap[w.heap.size + 1]? = some o2 := by
  have := heap_alloc_new (w.alloc o1) o2
  rwa [World.size_alloc] at this
theorem new3 (w : World) (o1 o2 o3 : Obj) : (((w.alloc o1).alloc o2).alloc o3).heap[w.heap.size + 1 + 1]? = some o3 := by
  have := heap_alloc_new ((w.alloc o1).alloc o2) o3
  rwa [World.size_alloc, World.size_alloc] at this
set_option maxRecDepth 100000 in
set_option maxHeartbeats 1000000 in
theorem rMinus_c (a b : St.Pt) (w : World) (ha : St.InP a) (hb : St.InP b) : Calls Tryz.prog 47 #[ptV a, ptV b] w (Ret w (ptV (St.sub a b))) := by
  obtain ⟨ax, ay⟩ := a
  obtain ⟨bx, by_⟩ := b
  obtain ⟨a1, a2, a3, a4⟩ := ha
  obtain ⟨b1, b2, b3, b4⟩ := hb
  unfold St.sub
  simp only at a1 a2 a3 a4 b1 b2 b3 b4 ⊢
  obtain ⟨u1, q1⟩ : ∃ u, ax - bx = u := ⟨_, rfl⟩
  obtain ⟨u3, q3⟩ : ∃ u, ay - by_ = u := ⟨_, rfl⟩
  have j1 : IntKind.i64.wrap (ax - bx) = u1 := wr q1 (by omega)
  have j3 : IntKind.i64.wrap (ay - by_) = u3 := wr q3 (by omega)
  rw [q1, q3]
  clear q1 q3 a1 a2 a3 a4 b1 b2 b3 b4
  go_enter Tryz.func47, Tryz.ntmps47
  go_wp2
  refine bodyPost_ret (results_cell_row rfl _ _ (w.heap.size + 1 + 1) 42 #[.int .i64 u1, .int .i64 u3] (0, 0) _ (by kernel_rfl) (new3 w _ _ _) Tryz.underlying42 rfl (by kernel_rfl)) rfl ?_
  exact ⟨rfl, bx3 w _ _ _⟩
set_option maxRecDepth 100000 in
set_option maxHeartbeats 1000000 in
theorem rTimes_c (a b : St.Pt) (k : Nat) (w : World) (ha : (-(k : Int) ≤ a.x ∧ a.x ≤ k) ∧ -(k : Int) ≤ a.y ∧ a.y ≤ k) (hb : (-(k : Int) ≤ b.x ∧ b.x ≤ k) ∧ -(k : Int) ≤ b.y ∧ b.y ≤ k) (hk : k ≤ 1000000000) :
    Calls Tryz.prog 103 #[ptV a, ptV b] w (Ret w (.int .i64 (St.dot a b))) := by
  have h1 := St.mul_bd ha.1 hb.1
  have h2 := St.mul_bd ha.2 hb.2
  have h3 : k * k ≤ 1000000000 * 1000000000 := Nat.mul_le_mul hk hk
  have hB := bx2 w (.cells #[.int .i64 a.x, .int .i64 a.y] 42) (.cells #[.int .i64 b.x, .int .i64 b.y] 42)
  obtain ⟨ax, ay⟩ := a
  obtain ⟨bx, by_⟩ := b
  unfold St.dot
  simp only at h1 h2 hB ⊢
  obtain ⟨m1, r1⟩ : ∃ u, ax * bx = u := ⟨_, rfl⟩
  obtain ⟨m2, r2⟩ : ∃ u, ay * by_ = u := ⟨_, rfl⟩
  have j5 : IntKind.i64.wrap (ax * bx) = m1 := wr r1 (by omega)
  have j6 : IntKind.i64.wrap (ay * by_) = m2 := wr r2 (by omega)
  rw [r1, r2]
  rw [r1] at h1
  rw [r2] at h2
  obtain ⟨d, s1⟩ : ∃ u, m1 + m2 = u := ⟨_, rfl⟩
  have j7 : IntKind.i64.wrap (m1 + m2) = d := wr s1 (by omega)
  rw [s1]
  clear r1 r2 s1 h1 h2 h3 ha hb
  go_enter Tryz.func103, Tryz.ntmps103
  go_wp2
  go_ret
  exact ⟨rfl, hB⟩
set_option maxRecDepth 100000 in
set_option maxHeartbeats 1000000 in
theorem rTurn_c (a b : St.Pt) (k : Nat) (w : World) (ha : (-(k : Int) ≤ a.x ∧ a.x ≤ k) ∧ -(k : Int) ≤ a.y ∧ a.y ≤ k) (hb : (-(k : Int) ≤ b.x ∧ b.x ≤ k) ∧ -(k : Int) ≤ b.y ∧ b.y ≤ k) (hk : k ≤ 1000000000) :
    Calls Tryz.prog 140 #[ptV a, ptV b] w (Ret w (.int .i64 (St.crs a b))) := by
  have h1 := St.mul_bd ha.1 hb.2
  have h2 := St.mul_bd ha.2 hb.1
  have h3 : k * k ≤ 1000000000 * 1000000000 := Nat.mul_le_mul hk hk
  have hB := bx2 w (.cells #[.int .i64 a.x, .int .i64 a.y] 42) (.cells #[.int .i64 b.x, .int .i64 b.y] 42)
  obtain ⟨ax, ay⟩ := a
  obtain ⟨bx, by_⟩ := b
  unfold St.crs
  simp only at h1 h2 hB ⊢
  obtain ⟨m1, r1⟩ : ∃ u, ax * by_ = u := ⟨_, rfl⟩
  obtain ⟨m2, r2⟩ : ∃ u, ay * bx = u := ⟨_, rfl⟩
  have j5 : IntKind.i64.wrap (ax * by_) = m1 := wr r1 (by omega)
  have j6 : IntKind.i64.wrap (ay * bx) = m2 := wr r2 (by omega)
  rw [r1, r2]
  rw [r1] at h1
  rw [r2] at h2
  obtain ⟨d, s1⟩ : ∃ u, m1 - m2 = u := ⟨_, rfl⟩
  have j7 : IntKind.i64.wrap (m1 - m2) = d := wr s1 (by omega)
  rw [s1]
  clear r1 r2 s1 h1 h2 h3 ha hb
  go_enter Tryz.func140, Tryz.ntmps140
  go_wp2
  go_ret
  exact ⟨rfl, hB⟩
theorem sub_bd {a b : St.Pt} (ha : St.InP a) (hb : St.InP b) : (-((200000 : Nat) : Int) ≤ (St.sub a b).x ∧ (St.sub a b).x ≤ ((200000 : Nat) : Int)) ∧ -((200000 : Nat) : Int) ≤ (St.sub a b).y ∧ (St.sub a b).y ≤ ((200000 : Nat) : Int) := by
  obtain ⟨a1, a2, a3, a4⟩ := ha
  obtain ⟨b1, b2, b3, b4⟩ := hb
  unfold St.sub
  simp only
  omega
/-- Three boxes, as facts. -/
structure Bx3 (w W : World) (p0 p1 p2 : St.Pt) : Prop where
  a : PtAt W w.heap.size 0 p0
  b : PtAt W (w.heap.size + 1) 0 p1
  c : PtAt W (w.heap.size + 1 + 1) 0 p2
  w : Below w.heap.size w W
theorem Bx3.mk' (w : World) (p0 p1 p2 : St.Pt) (t : TypeId) : Bx3 w (((w.alloc (.cells #[.int .i64 p0.x, .int .i64 p0.y] t)).alloc (.cells #[.int .i64 p1.x, .int .i64 p1.y] t)).alloc (.cells #[.int .i64 p2.x, .int .i64 p2.y] t)) p0 p1 p2 := by
  have h0 := PtAt.new w p0 t
  have h1 := PtAt.new (w.alloc (.cells #[.int .i64 p0.x, .int .i64 p0.y] t)) p1 t
  have h2 := PtAt.new ((w.alloc (.cells #[.int .i64 p0.x, .int .i64 p0.y] t)).alloc (.cells #[.int .i64 p1.x, .int .i64 p1.y] t)) p2 t
  have b1 := below_al (w.alloc (.cells #[.int .i64 p0.x, .int .i64 p0.y] t)) (.cells #[.int .i64 p1.x, .int .i64 p1.y] t)
  have b2 := below_al ((w.alloc (.cells #[.int .i64 p0.x, .int .i64 p0.y] t)).alloc (.cells #[.int .i64 p1.x, .int .i64 p1.y] t)) (.cells #[.int .i64 p2.x, .int .i64 p2.y] t)
  have h0' := (h0.later b1).later b2
  have h1' := h1.later b2
  simp only [World.size_alloc] at h1' h2
  exact ⟨h0', h1', h2, bx3 w _ _ _⟩
theorem Bx3.later {w W W' : World} {p0 p1 p2 : St.Pt} (h : Bx3 w W p0 p1 p2) (hb : Below W.heap.size W W') : Bx3 w W' p0 p1 p2 := ⟨h.a.later hb, h.b.later hb, h.c.later hb, h.w.nx hb⟩
theorem Bx3.drew {w W : World} {p0 p1 p2 : St.Pt} (h : Bx3 w W p0 p1 p2) : Bx3 w W.drew p0 p1 p2 := ⟨h.a.drew, h.b.drew, h.c.drew, h.w.drew⟩
theorem Bx3.s {w W : World} {ax ay bx by_ px py : Int} (h : Bx3 w W ⟨ax, ay⟩ ⟨bx, by_⟩ ⟨px, py⟩) : W.cell? ⟨w.heap.size, 0, none⟩ = some (.int .i64 ax) ∧ W.cell? ⟨w.heap.size, 1, none⟩ = some (.int .i64 ay) ∧
    W.cell? ⟨w.heap.size + 1, 0, none⟩ = some (.int .i64 bx) ∧ W.cell? ⟨w.heap.size + 1, 1, none⟩ = some (.int .i64 by_) ∧
    W.cell? ⟨w.heap.size + 1 + 1, 0, none⟩ = some (.int .i64 px) ∧ W.cell? ⟨w.heap.size + 1 + 1, 1, none⟩ = some (.int .i64 py) ∧ Bx3 w W ⟨ax, ay⟩ ⟨bx, by_⟩ ⟨px, py⟩ :=
  ⟨h.a.c0, h.a.c1, h.b.c0, h.b.c1, h.c.c0, h.c.c1, h⟩
structure Bx2 (w W : World) (p0 p1 : St.Pt) : Prop where
  a : PtAt W w.heap.size 0 p0
  b : PtAt W (w.heap.size + 1) 0 p1
  w : Below w.heap.size w W
theorem Bx2.mk' (w : World) (p0 p1 : St.Pt) (t : TypeId) : Bx2 w ((w.alloc (.cells #[.int .i64 p0.x, .int .i64 p0.y] t)).alloc (.cells #[.int .i64 p1.x, .int .i64 p1.y] t)) p0 p1 := by
  have h0 := PtAt.new w p0 t
  have h1 := PtAt.new (w.alloc (.cells #[.int .i64 p0.x, .int .i64 p0.y] t)) p1 t
  have b1 := below_al (w.alloc (.cells #[.int .i64 p0.x, .int .i64 p0.y] t)) (.cells #[.int .i64 p1.x, .int .i64 p1.y] t)
  have h0' := h0.later b1
  simp only [World.size_alloc] at h1
  exact ⟨h0', h1, bx2 w _ _⟩
theorem Bx2.later {w W W' : World} {p0 p1 : St.Pt} (h : Bx2 w W p0 p1) (hb : Below W.heap.size W W') : Bx2 w W' p0 p1 := ⟨h.a.later hb, h.b.later hb, h.w.nx hb⟩
theorem Bx2.drew {w W : World} {p0 p1 : St.Pt} (h : Bx2 w W p0 p1) : Bx2 w W.drew p0 p1 := ⟨h.a.drew, h.b.drew, h.w.drew⟩
end Go.Proofs.Wk
/- STRAIGHTNESS: distances from a line in the reference; vectors of package hull. -/
namespace Go.Proofs.Wk
open Go.RowKit Mt

theorem Bx2.s {w W : World} {ax ay bx by_ : Int} (h : Bx2 w W ⟨ax, ay⟩ ⟨bx, by_⟩) : W.cell? ⟨w.heap.size, 0, none⟩ = some (.int .i64 ax) ∧ W.cell? ⟨w.heap.size, 1, none⟩ = some (.int .i64 ay) ∧
    W.cell? ⟨w.heap.size + 1, 0, none⟩ = some (.int .i64 bx) ∧ W.cell? ⟨w.heap.size + 1, 1, none⟩ = some (.int .i64 by_) ∧ Bx2 w W ⟨ax, ay⟩ ⟨bx, by_⟩ :=
  ⟨h.a.c0, h.a.c1, h.b.c0, h.b.c1, h⟩
set_option maxRecDepth 100000 in
set_option maxHeartbeats 2000000 in
theorem rFar_c (a b : St.Pt) (w : World) (ha : St.InP a) (hb : St.InP b) : Calls Tryz.prog 40 #[ptV a, ptV b] w (Ret w (.int .i64 (St.far a b))) := by
  have H1 := Lib.hid (fun W => rMinus_c a b W ha hb)
  have h3 := fun W => rTimes_c (St.sub a b) (St.sub a b) 200000 W (sub_bd ha hb) (sub_bd ha hb) (by decide)
  rw [← St.far_dot, St.far_swap] at h3
  have H3 := Lib.hid h3
  have hx := Bx2.mk' w a b 42
  generalize St.sub a b = u at *
  generalize St.far a b = n at *
  clear h3 ha hb
  obtain ⟨ax, ay⟩ := a
  obtain ⟨bx, by_⟩ := b
  obtain ⟨ux, uy⟩ := u
  simp only at hx
  go_enter Tryz.func40, Tryz.ntmps40
  go_wp2_with fail
  generalize ((w.alloc (.cells #[.int .i64 ax, .int .i64 ay] 42)).alloc (.cells #[.int .i64 bx, .int .i64 by_] 42)) = W at *
  go_region_held3 (fun w' => w'.cell? ⟨w.heap.size, 0, none⟩ = some (.int .i64 ax) ∧ w'.cell? ⟨w.heap.size, 1, none⟩ = some (.int .i64 ay) ∧
      w'.cell? ⟨w.heap.size + 1, 0, none⟩ = some (.int .i64 bx) ∧ w'.cell? ⟨w.heap.size + 1, 1, none⟩ = some (.int .i64 by_) ∧ Bx2 w w' ⟨ax, ay⟩ ⟨bx, by_⟩)
    (first | exact J3.s | exact J2.s | exact J1.s | exact hx.s | exact hx.drew.s)
    (first
      | (go_at_call 103; (with_reducible refine (H3.out _).mono ?_); rintro e w3 ⟨rfl, hb3⟩; have J3 := J2.later hb3)
      | (go_at_call 47; (with_reducible refine (H1.out _).mono ?_); rintro e w1 ⟨rfl, hb1⟩; (first | have J2 := J1.later hb1 | have J1 := hx.drew.later hb1 | have J1 := hx.later hb1))
      | fail)
  all_goals
    go_wp2
    go_ret
    exact ⟨rfl, J3.w⟩
set_option maxRecDepth 100000 in
set_option maxHeartbeats 2000000 in
theorem rRatio_c (n d : Int) (w : World) (hn : -400000000000 ≤ n ∧ n ≤ 400000000000) (hd : 0 < d ∧ d ≤ 80000000000) : Calls Tryz.prog 191 #[.int .i64 n, .int .i64 d] w (Ret w (.string ⟨(rtoa (Rat.divInt (n * n) d)).toArray⟩)) := by
  have ln : lng n ≤ 24 := lng_bd (by decide) (by have e : (400000000000 : Nat) < 10 ^ 24 := by decide
                                                 omega)
  have ld : lng d ≤ 24 := lng_bd (by decide) (by have e : (80000000000 : Nat) < 10 ^ 24 := by decide
                                                 omega)
  have lnn : lng (n * n) ≤ 24 := by
    refine lng_bd (by decide) ?_
    have := St.mul_bd (x := n) (y := n) (k := 400000000000) (m := 400000000000) (by omega) (by omega)
    have e : (400000000000 * 400000000000 : Nat) < 10 ^ 24 := by decide
    omega
  have H1 := Lib.hid (fun W => Of_c n W (by omega) (by omega))
  have H2 := Lib.hid (fun W => Times_c n n W (by omega) (by omega))
  have H3 := Lib.hid (fun W => Of_c d W (by omega) (by omega))
  have H4 := Lib.hid (fun W => Lowest_c (n * n) d W (by omega) (by omega) (by omega))
  have hB0 := Below.refl w.heap.size w
  clear ln ld lnn hn hd
  generalize rtoa (Rat.divInt (n * n) d) = T at *
  generalize Lib.itoa n = tn at *
  generalize Lib.itoa d = td at *
  generalize Lib.itoa (n * n) = tnn at *
  go_enter Tryz.func191, Tryz.ntmps191
  go_wp2_with fail
  ((with_reducible refine (H1.out _).mono ?_); rintro e w1 ⟨rfl, hb1⟩)
  have hB1 := hB0.trans (hb1.mono hB0.size); clear hb1
  go_wp2_with fail
  ((with_reducible refine (H2.out _).mono ?_); rintro e w2 ⟨rfl, hb2⟩)
  have hB2 := hB1.trans (hb2.mono hB1.size); clear hb2
  go_wp2_with fail
  ((with_reducible refine (H3.out _).mono ?_); rintro e w3 ⟨rfl, hb3⟩)
  have hB3 := hB2.trans (hb3.mono hB2.size); clear hb3
  go_wp2_with fail
  ((with_reducible refine (H4.out _).mono ?_); rintro e w4 ⟨rfl, hb4⟩)
  have hB4 := hB3.trans (hb4.mono hB3.size); clear hb4
  go_wp2
  go_ret
  exact ⟨rfl, hB4⟩
end Go.Proofs.Wk
/- STRAIGHTNESS: the support of a pair. -/
namespace Go.Proofs.Wk
open Go.RowKit Mt

abbrev prfC (x : St.Prf) : Array Value := #[.int .i64 (x.i : Int), .int .i64 (x.j : Int), .int .i64 x.area, .int .i64 (x.far : Int)]
abbrev prfV (x : St.Prf) : Value := .agg (prfC x)
theorem supF_same (a : St.Pt) : ∀ (l : List St.Pt) (k : Nat) (s : St.Sp), 0 ≤ s.area → (St.supF a a l k s).area = s.area ∧ (St.supF a a l k s).far = s.far
  | [], _, _, _ => ⟨rfl, rfl⟩
  | p :: t, k, s, h => by
    have e : St.left a a p = 0 := by unfold St.left; simp
    have e1 : (St.supS a a p k s).area = s.area := by unfold St.supS; rw [e]; exact if_neg (by simp; omega)
    have e2 : (St.supS a a p k s).far = s.far := by unfold St.supS; rw [e]; exact if_neg (by simp; omega)
    have ih := supF_same a t (k + 1) (St.supS a a p k s) (by rw [e1]; exact h)
    rw [e1, e2] at ih
    exact ih
theorem prf_same {ls : List St.Pt} {i j : Nat} (h : St.at_ ls i = St.at_ ls j) : St.prf ls i j = ⟨i, j, 0, 0⟩ := by
  obtain ⟨h1, h2⟩ := supF_same (St.at_ ls j) ls 0 ⟨0, 0, 0, 0⟩ (Int.le_refl _)
  unfold St.prf St.sp
  rw [h, h1, h2]
theorem sup_drop {ls : List St.Pt} {k : Nat} (hk : k < ls.length) (a b : St.Pt) (s : St.Sp) : St.supF a b (ls.drop k) k s = St.supF a b (ls.drop (k + 1)) (k + 1) (St.supS a b (St.at_ ls k) k s) := by
  rw [List.drop_eq_getElem_cons hk, St.supF, St.at_get hk]
theorem pt_fields : ((Tryz.prog.fieldsOf 42).toList.map fun f => (f.name, f.type, f.offset)) = [("X", 3, 0), ("Y", 3, 1)] := by kernel_rfl
theorem pt_equal (a b c d : Int) (w : World) : (Op.equalIn 10000 42 (.agg #[.int .i64 a, .int .i64 b]) (.agg #[.int .i64 c, .int .i64 d])).run Tryz.prog w = .ok (a == c && b == d) w := by
  have hf := pt_fields
  rw [show (10000 : Nat) = 9999 + 1 from rfl, run_equalIn_agg w 9999 42 _ _ (by kernel_rfl) (by kernel_rfl)]
  generalize (Tryz.prog.fieldsOf 42).toList = fs at *
  rcases fs with _ | ⟨f, _ | ⟨g, _ | ⟨_, _⟩⟩⟩
  · simp at hf
  · simp at hf
  · simp only [List.map_cons, List.map_nil, List.cons.injEq, Prod.mk.injEq, and_true] at hf
    obtain ⟨⟨f1, f2, f3⟩, g1, g2, g3⟩ := hf
    have p1 : ∀ (u v : Int) (W : World), (part 3 #[.int .i64 u, .int .i64 v] 0).run Tryz.prog W = .ok (.int .i64 u) W := fun u v W => by simp [part, isAgg, run_underlying Tryz.underlying3]
    have p2 : ∀ (u v : Int) (W : World), (part 3 #[.int .i64 u, .int .i64 v] 1).run Tryz.prog W = .ok (.int .i64 v) W := fun u v W => by simp [part, isAgg, run_underlying Tryz.underlying3]
    have e1 := fun (u v : Int) (W : World) => run_equalIn_int (P := Tryz.prog) W 9998 3 .i64 .i64 u v Tryz.underlying3
    simp only [Op.eqFields, f1, f2, f3, g1, g2, g3, show (("X" : String) ≠ "_") = True from by simp, show (("Y" : String) ≠ "_") = True from by simp, if_true, Sem.run_bind, p1, p2, Result.andThen_ok, e1, Sem.run_ite]
    cases h1 : (a == c) <;> cases h2 : (b == d) <;> simp
  · simp at hf
theorem pt_eql (a b c d : Int) (w : World) : (binOp .eql 42 (.agg #[.int .i64 a, .int .i64 b]) (.agg #[.int .i64 c, .int .i64 d])).run Tryz.prog w = .ok (.bool (a == c && b == d)) w := by
  rw [run_eql_struct, pt_equal]; rfl
theorem pt_neq (a b c d : Int) (w : World) : (binOp .neq 42 (.agg #[.int .i64 a, .int .i64 b]) (.agg #[.int .i64 c, .int .i64 d])).run Tryz.prog w = .ok (.bool (!(a == c && b == d))) w := by
  rw [run_neq_struct, pt_equal]; rfl
theorem pt_beq (p q : St.Pt) : (p.x == q.x && p.y == q.y) = decide (p = q) := by
  obtain ⟨a, b⟩ := p
  obtain ⟨c, d⟩ := q
  rw [Bool.eq_iff_iff]
  simp
theorem supS_yes {a b p : St.Pt} {k : Nat} {s : St.Sp} (h : s.area < max (St.left a b p) (-(St.left a b p))) : St.supS a b p k s = ⟨min s.low (St.left a b p), max s.high (St.left a b p), max (St.left a b p) (-(St.left a b p)), k⟩ := by
  unfold St.supS; rw [if_pos h, if_pos h]
theorem supS_no {a b p : St.Pt} {k : Nat} {s : St.Sp} (h : ¬ s.area < max (St.left a b p) (-(St.left a b p))) : St.supS a b p k s = ⟨min s.low (St.left a b p), max s.high (St.left a b p), s.area, s.far⟩ := by
  unfold St.supS; rw [if_neg h, if_neg h]
theorem RX.ptAt {w : World} {b off : Nat} {ls : List St.Pt} (h : RX w b off ls) {i : Nat} (hi : i < ls.length) : PtAt w b (off + i * 2) (St.at_ ls i) := ⟨(h.pt hi).1, (h.pt hi).2⟩
end Go.Proofs.Wk
