/- STRAIGHTNESS: the square of a proof; the reference's Supports and Farthest. -/
import Derived.Test.YtcdjhgkeehhaaaaGreatDoorNE
import Derived.Test.YtcdjhgkeehhaaaaGreatDoorHD
import Derived.RegionTactic
import Derived.ChangeAlike
import Derived.Test.YtcdjhgkeehhaaaaGreatDoorRng
import Derived.RangeFuncBound
import Derived.Shelf.Abstract
import Derived.Shelf.RegionOpen
import Derived.OwnWalkIn
import Derived.TacticsInMore
import Derived.LoopNIn
import Derived.LoopIn
import Derived.Deep.RegionHeld3
import Derived.Laws.EntriesVeiled
import Derived.Test.YtcdjhgkeehhaaaaGreatDoorHE
namespace Go.Proofs.Wk
open Go.RowKit Mt

/-- What 'square' reads. -/
structure SqR (w W : World) (b o1 o2 : Nat) (a c : St.Pt) (x : St.Prf) : Prop where
  a : PtAt W b o1 a
  c : PtAt W b o2 c
  x : W.heap[w.heap.size]? = some (.cells (prfC x) 44 (0, 0))
  w : Below w.heap.size w W
theorem SqR.later {w W W' : World} {b o1 o2 : Nat} {a c : St.Pt} {x : St.Prf} (h : SqR w W b o1 o2 a c x) (hb : Below W.heap.size W W') : SqR w W' b o1 o2 a c x :=
  ⟨h.a.later hb, h.c.later hb, by rw [hb.block _ (Array.getElem?_eq_some_iff.1 h.x).1]; exact h.x, h.w.nx hb⟩
theorem SqR.drew {w W : World} {b o1 o2 : Nat} {a c : St.Pt} {x : St.Prf} (h : SqR w W b o1 o2 a c x) : SqR w W.drew b o1 o2 a c x := ⟨h.a.drew, h.c.drew, h.x, h.w.drew⟩
theorem SqR.t {w W : World} {b o1 o2 : Nat} {ax ay cx cy : Int} {i j : Nat} {area : Int} {far : Nat} (h : SqR w W b o1 o2 ⟨ax, ay⟩ ⟨cx, cy⟩ ⟨i, j, area, far⟩) :
    W.cell? ⟨b, o1, none⟩ = some (.int .i64 ax) ∧ W.cell? ⟨b, o1 + 1, none⟩ = some (.int .i64 ay) ∧ W.cell? ⟨b, o2, none⟩ = some (.int .i64 cx) ∧ W.cell? ⟨b, o2 + 1, none⟩ = some (.int .i64 cy) ∧
    W.cell? ⟨w.heap.size, 0, none⟩ = some (.int .i64 (i : Int)) ∧ W.cell? ⟨w.heap.size, 1, none⟩ = some (.int .i64 (j : Int)) ∧ W.cell? ⟨w.heap.size, 2, none⟩ = some (.int .i64 area) ∧ SqR w W b o1 o2 ⟨ax, ay⟩ ⟨cx, cy⟩ ⟨i, j, area, far⟩ := by
  obtain ⟨d0, d1, d2, d3⟩ := c4row h.x
  exact ⟨h.a.c0, h.a.c1, h.c.c0, h.c.c1, d0, d1, d2, h⟩
set_option maxRecDepth 100000 in
set_option maxHeartbeats 4000000 in
theorem square_c {v : Value} (ls : List St.Pt) (x : St.Prf) (w : World) (hg : Good w) (S : SlX w v ls) (hin : ∀ p ∈ ls, St.InP p) (hi : x.i < ls.length) (hj : x.j < ls.length) (hne : St.at_ ls x.i ≠ St.at_ ls x.j)
    (ha : 0 ≤ x.area ∧ x.area ≤ 80000000000) (hn : ls.length ≤ 64) : Calls Tryz.prog 26 #[prfV x, v] w (Ret w (.string ⟨(rtoa (St.wv ls x)).toArray⟩)) := by
  refine S.cases _ ?_ ?_
  · rintro a cap rfl rfl
    simp at hi
  rintro b off cap rfl hp hR hb
  have hx0 : Below w.heap.size w (w.alloc (.cells (prfC x) 44)) := below_al w _
  have hr0 : SqR w (w.alloc (.cells (prfC x) 44)) b (off + x.i * 2) (off + x.j * 2) (St.at_ ls x.i) (St.at_ ls x.j) x :=
    ⟨(hR.later hx0 hb).ptAt hi, (hR.later hx0 hb).ptAt hj, heap_alloc_new w _, hx0⟩
  have HS := Lib.hid (fun W hW => squared_g x.area (St.at_ ls x.i) (St.at_ ls x.j) W hW (by omega) (St.at_in hin hi) (St.at_in hin hj) hne)
  have HG := Lib.hid (fun W (h : Below w.heap.size w W) => hg.later h)
  have hwv : St.wv ls x = St.wq x.area (St.at_ ls x.i) (St.at_ ls x.j) := rfl
  rw [hwv]
  generalize rtoa (St.wq x.area (St.at_ ls x.i) (St.at_ ls x.j)) = T at *
  generalize St.at_ ls x.i = a at *
  generalize St.at_ ls x.j = c at *
  obtain ⟨i, j, area, far⟩ := x
  obtain ⟨ax, ay⟩ := a
  obtain ⟨cx, cy⟩ := c
  simp only at hr0 hi hj hx0
  have HR0 := Lib.hid hr0
  clear hR hr0 hne ha hin hwv hg hx0
  go_enter Tryz.func26, Tryz.ntmps26
  go_wp2_with fail
  generalize w.alloc (.cells #[.int .i64 (i : Int), .int .i64 (j : Int), .int .i64 area, .int .i64 (far : Int)] 44) = W1 at *
  go_region_held3 (fun w' => w'.cell? ⟨b, off + i * 2, none⟩ = some (.int .i64 ax) ∧ w'.cell? ⟨b, off + i * 2 + 1, none⟩ = some (.int .i64 ay) ∧ w'.cell? ⟨b, off + j * 2, none⟩ = some (.int .i64 cx) ∧ w'.cell? ⟨b, off + j * 2 + 1, none⟩ = some (.int .i64 cy) ∧
      w'.cell? ⟨w.heap.size, 0, none⟩ = some (.int .i64 (i : Int)) ∧ w'.cell? ⟨w.heap.size, 1, none⟩ = some (.int .i64 (j : Int)) ∧ w'.cell? ⟨w.heap.size, 2, none⟩ = some (.int .i64 area) ∧ SqR w w' b (off + i * 2) (off + j * 2) ⟨ax, ay⟩ ⟨cx, cy⟩ ⟨i, j, area, far⟩)
    (first | exact JJ.t | exact HR0.out.t | exact HR0.out.drew.t)
    (first
      | (go_at_call 52; (with_reducible refine (HS.out _ ?_).mono ?_); (first | exact HG.out _ HR0.out.drew.w | exact HG.out _ HR0.out.w); rintro e w1 ⟨rfl, hb1⟩; (first | have JJ := HR0.out.drew.later hb1 | have JJ := HR0.out.later hb1))
      | fail)
  all_goals
    have hJ := JJ.w
    clear JJ
    go_wp2
    go_ret
    exact ⟨rfl, hJ⟩
/-- Three points in a row. -/
structure P3R (w W : World) (b o1 o2 o3 : Nat) (a c p : St.Pt) : Prop where
  a : PtAt W b o1 a
  c : PtAt W b o2 c
  p : PtAt W b o3 p
  w : Below w.heap.size w W
theorem P3R.later {w W W' : World} {b o1 o2 o3 : Nat} {a c p : St.Pt} (h : P3R w W b o1 o2 o3 a c p) (hb : Below W.heap.size W W') : P3R w W' b o1 o2 o3 a c p := ⟨h.a.later hb, h.c.later hb, h.p.later hb, h.w.nx hb⟩
theorem P3R.drew {w W : World} {b o1 o2 o3 : Nat} {a c p : St.Pt} (h : P3R w W b o1 o2 o3 a c p) : P3R w W.drew b o1 o2 o3 a c p := ⟨h.a.drew, h.c.drew, h.p.drew, h.w.drew⟩
theorem P3R.t {w W : World} {b o1 o2 o3 : Nat} {ax ay cx cy px py : Int} (h : P3R w W b o1 o2 o3 ⟨ax, ay⟩ ⟨cx, cy⟩ ⟨px, py⟩) :
    W.cell? ⟨b, o1, none⟩ = some (.int .i64 ax) ∧ W.cell? ⟨b, o1 + 1, none⟩ = some (.int .i64 ay) ∧ W.cell? ⟨b, o2, none⟩ = some (.int .i64 cx) ∧ W.cell? ⟨b, o2 + 1, none⟩ = some (.int .i64 cy) ∧
    W.cell? ⟨b, o3, none⟩ = some (.int .i64 px) ∧ W.cell? ⟨b, o3 + 1, none⟩ = some (.int .i64 py) ∧ P3R w W b o1 o2 o3 ⟨ax, ay⟩ ⟨cx, cy⟩ ⟨px, py⟩ :=
  ⟨h.a.c0, h.a.c1, h.c.c0, h.c.c1, h.p.c0, h.p.c1, h⟩
end Go.Proofs.Wk
/- STRAIGHTNESS: the reference's farthest point from a line. -/
namespace Go.Proofs.Wk
open Go.RowKit Mt

/-- Two boxed points, and one in a row. -/
structure FaR (w W : World) (b o : Nat) (a c p : St.Pt) : Prop where
  x : Bx2 w W a c
  p : PtAt W b o p
theorem FaR.later {w W W' : World} {b o : Nat} {a c p : St.Pt} (h : FaR w W b o a c p) (hb : Below W.heap.size W W') : FaR w W' b o a c p := ⟨h.x.later hb, h.p.later hb⟩
theorem FaR.drew {w W : World} {b o : Nat} {a c p : St.Pt} (h : FaR w W b o a c p) : FaR w W.drew b o a c p := ⟨h.x.drew, h.p.drew⟩
theorem FaR.t {w W : World} {b o : Nat} {ax ay cx cy px py : Int} (h : FaR w W b o ⟨ax, ay⟩ ⟨cx, cy⟩ ⟨px, py⟩) :
    W.cell? ⟨w.heap.size, 0, none⟩ = some (.int .i64 ax) ∧ W.cell? ⟨w.heap.size, 1, none⟩ = some (.int .i64 ay) ∧ W.cell? ⟨w.heap.size + 1, 0, none⟩ = some (.int .i64 cx) ∧ W.cell? ⟨w.heap.size + 1, 1, none⟩ = some (.int .i64 cy) ∧
    W.cell? ⟨b, o, none⟩ = some (.int .i64 px) ∧ W.cell? ⟨b, o + 1, none⟩ = some (.int .i64 py) ∧ FaR w W b o ⟨ax, ay⟩ ⟨cx, cy⟩ ⟨px, py⟩ :=
  ⟨h.x.a.c0, h.x.a.c1, h.x.b.c0, h.x.b.c1, h.p.c0, h.p.c1, h⟩
end Go.Proofs.Wk
/- STRAIGHTNESS: the reference's least width. -/
namespace Go.Proofs.Wk
open Go.RowKit Mt

theorem prf_bd {ls : List St.Pt} (hin : ∀ p ∈ ls, St.InP p) {i j : Nat} (hi : i < ls.length) (hj : j < ls.length) : 0 ≤ (St.prf ls i j).area ∧ (St.prf ls i j).area ≤ 80000000000 := by
  obtain ⟨h1, -, h3⟩ := St.prf_area ls i j
  refine ⟨h1, ?_⟩
  rcases h3 with ⟨e, -⟩ | ⟨hm, e⟩
  · omega
  · have := (St.left_bd (St.at_in hin hi) (St.at_in hin hj) (St.at_in hin hm)).2.2
    omega
theorem prf_sz {ls : List St.Pt} (hin : ∀ p ∈ ls, St.InP p) {i j : Nat} (hi : i < ls.length) (hj : j < ls.length) (hok : St.okP ls i j = true) : szQ (St.wv ls (St.prf ls i j)) 24 :=
  wq_szQ (by have := prf_bd hin hi hj; omega) (by have := (St.far_bd (St.at_in hin hi) (St.at_in hin hj)).2.2; exact this.2) (St.okP_ne hok)
/-- The best width till now: its number, its pair, its farthest point. -/
def bsQ (ls : List St.Pt) : Option St.Prf → Rat | none => 0 | some x => St.wv ls x
def bsI : Option St.Prf → Nat | none => 0 | some x => x.i
def bsJ : Option St.Prf → Nat | none => 0 | some x => x.j
def bsF : Option St.Prf → Nat | none => 0 | some x => x.far
theorem bet_yes {ls : List St.Pt} {s : Option St.Prf} {x : St.Prf} (h : s = none ∨ St.wv ls x < bsQ ls s) : St.bet ls s x = some x := by
  cases s with
  | none => rfl
  | some y =>
    rcases h with h | h
    · cases h
    · exact if_pos h
theorem bet_no {ls : List St.Pt} {s : Option St.Prf} {x : St.Prf} (h : s.isSome = true) (h2 : ¬ St.wv ls x < bsQ ls s) : St.bet ls s x = s := by
  cases s with
  | none => cases h
  | some y => exact if_neg h2
structure LsR (w W : World) (i j : Nat) : Prop where
  r : W.heap[w.heap.size]? = some (.cells #[.int .i64 0, .int .i64 0] 28 (0, 0))
  o : W.heap[w.heap.size + 1]? = some (.cells #[.int .i64 (i : Int), .int .i64 (j : Int)] 28 (0, 0))
  w : Below w.heap.size w W
theorem LsR.later {w W W' : World} {i j : Nat} (h : LsR w W i j) (hb : Below W.heap.size W W') : LsR w W' i j :=
  ⟨by rw [hb.block _ (Array.getElem?_eq_some_iff.1 h.r).1]; exact h.r, by rw [hb.block _ (Array.getElem?_eq_some_iff.1 h.o).1]; exact h.o, h.w.nx hb⟩
theorem LsR.drew {w W : World} {i j : Nat} (h : LsR w W i j) : LsR w W.drew i j := ⟨h.r, h.o, h.w.drew⟩
theorem LsR.new (w : World) : LsR w ((w.alloc (.cells #[.int .i64 0, .int .i64 0] 28)).alloc (.cells #[.int .i64 0, .int .i64 0] 28)) 0 0 :=
  ⟨by rw [heap_alloc_old _ _ (by rw [World.size_alloc]; omega)]; exact heap_alloc_new w _, new2 w _ _, bx2 w _ _⟩
theorem LsR.put {w W : World} {i j : Nat} (h : LsR w W i j) (i' j' : Nat) : LsR w ((W.setCell ⟨w.heap.size + 1, 0, none⟩ (.int .i64 (i' : Int))).setCell ⟨w.heap.size + 1, 1, none⟩ (.int .i64 (j' : Int))) i' j' :=
  ⟨(o2row (show w.heap.size ≠ w.heap.size + 1 by omega)).trans h.r, s2row h.o, b2row h.w (by omega)⟩
/-- Two points in a row, beside the state. -/
structure P2R (w W : World) (b o1 o2 : Nat) (a c : St.Pt) (i j : Nat) : Prop where
  a : PtAt W b o1 a
  c : PtAt W b o2 c
  s : LsR w W i j
theorem P2R.later {w W W' : World} {b o1 o2 : Nat} {a c : St.Pt} {i j : Nat} (h : P2R w W b o1 o2 a c i j) (hb : Below W.heap.size W W') : P2R w W' b o1 o2 a c i j := ⟨h.a.later hb, h.c.later hb, h.s.later hb⟩
theorem P2R.drew {w W : World} {b o1 o2 : Nat} {a c : St.Pt} {i j : Nat} (h : P2R w W b o1 o2 a c i j) : P2R w W.drew b o1 o2 a c i j := ⟨h.a.drew, h.c.drew, h.s.drew⟩
theorem P2R.t {w W : World} {b o1 o2 : Nat} {ax ay cx cy : Int} {i j : Nat} (h : P2R w W b o1 o2 ⟨ax, ay⟩ ⟨cx, cy⟩ i j) :
    W.cell? ⟨b, o1, none⟩ = some (.int .i64 ax) ∧ W.cell? ⟨b, o1 + 1, none⟩ = some (.int .i64 ay) ∧ W.cell? ⟨b, o2, none⟩ = some (.int .i64 cx) ∧ W.cell? ⟨b, o2 + 1, none⟩ = some (.int .i64 cy) ∧ P2R w W b o1 o2 ⟨ax, ay⟩ ⟨cx, cy⟩ i j :=
  ⟨h.a.c0, h.a.c1, h.c.c0, h.c.c1, h⟩
end Go.Proofs.Wk
/- STRAIGHTNESS: the better of two proofs. -/
namespace Go.Proofs.Wk
open Go.RowKit Mt

/-- Only two blocks may have changed. -/
structure Sv2 (g1 g2 : Nat) (W W' : World) : Prop where
  os : W'.os = W.os
  tape : W'.tape = W.tape
  output : W'.output = W.output
  size : W.heap.size ≤ W'.heap.size
  block : ∀ k, k < W.heap.size → k ≠ g1 → k ≠ g2 → W'.heap[k]? = W.heap[k]?
theorem Sv2.of {g1 g2 : Nat} {W W' : World} (h : Below W.heap.size W W') : Sv2 g1 g2 W W' := ⟨h.os, h.tape, h.output, h.size, fun k hk _ _ => h.block k hk⟩
theorem Sv2.set1 {g1 g2 : Nat} {W W' : World} (h : Sv2 g1 g2 W W') (j : Nat) (v : Value) : Sv2 g1 g2 W (W'.setCell ⟨g1, j, none⟩ v) :=
  ⟨h.os, h.tape, h.output, by rw [show (W'.setCell ⟨g1, j, none⟩ v).heap.size = W'.heap.size by simp [World.setCell]]; exact h.size, fun k hk h1 h2 => (heap_setCell_other _ _ _ _ h1).trans (h.block k hk h1 h2)⟩
theorem Sv2.set2 {g1 g2 : Nat} {W W' : World} (h : Sv2 g1 g2 W W') (j : Nat) (v : Value) : Sv2 g1 g2 W (W'.setCell ⟨g2, j, none⟩ v) :=
  ⟨h.os, h.tape, h.output, by rw [show (W'.setCell ⟨g2, j, none⟩ v).heap.size = W'.heap.size by simp [World.setCell]]; exact h.size, fun k hk h1 h2 => (heap_setCell_other _ _ _ _ h2).trans (h.block k hk h1 h2)⟩
theorem Sv2.drew {g1 g2 : Nat} {W W' : World} (h : Sv2 g1 g2 W W') : Sv2 g1 g2 W W'.drew := ⟨h.os, h.tape, h.output, h.size, h.block⟩
theorem rtoa_nn (q : Rat) : rtoa q ≠ [] := by
  unfold rtoa
  split
  · exact itoa_ne_nil _
  · simp
/-- The best proof till now, as it lies in memory. -/
def stT (ls : List St.Pt) : Option St.Prf → Txt | none => [] | some x => rtoa (St.wv ls x)
def stP : Option St.Prf → St.Prf | none => ⟨0, 0, 0, 0⟩ | some x => x
structure BsM (bl g1 g2 : Nat) (v : Value) (t : Txt) (p : St.Prf) (W : World) : Prop where
  l : W.heap[bl]? = some (.cells #[v] 22 (0, 0))
  b : W.heap[g1]? = some (.cells #[.string ⟨t.toArray⟩] 27 (0, 0))
  o : W.heap[g2]? = some (.cells (prfC p) 44 (0, 0))
theorem BsM.later {bl g1 g2 : Nat} {v : Value} {t : Txt} {p : St.Prf} {W W' : World} (h : BsM bl g1 g2 v t p W) (hb : Below W.heap.size W W') : BsM bl g1 g2 v t p W' :=
  ⟨by rw [hb.block _ (Array.getElem?_eq_some_iff.1 h.l).1]; exact h.l, by rw [hb.block _ (Array.getElem?_eq_some_iff.1 h.b).1]; exact h.b, by rw [hb.block _ (Array.getElem?_eq_some_iff.1 h.o).1]; exact h.o⟩
theorem BsM.drew {bl g1 g2 : Nat} {v : Value} {t : Txt} {p : St.Prf} {W : World} (h : BsM bl g1 g2 v t p W) : BsM bl g1 g2 v t p W.drew := ⟨h.l, h.b, h.o⟩
/-- A proof that may be asked. -/
structure OkX (ls : List St.Pt) (x : St.Prf) : Prop where
  i : x.i < ls.length
  j : x.j < ls.length
  ne : St.at_ ls x.i ≠ St.at_ ls x.j
  area : 0 ≤ x.area ∧ x.area ≤ 80000000000
theorem OkX.sz {ls : List St.Pt} {x : St.Prf} (hin : ∀ p ∈ ls, St.InP p) (h : OkX ls x) : szQ (St.wv ls x) 24 :=
  wq_szQ (by have := h.area; omega) (by have := (St.far_bd (St.at_in hin h.i) (St.at_in hin h.j)).2.2; exact this.2) h.ne
theorem okX_prf {ls : List St.Pt} (hin : ∀ p ∈ ls, St.InP p) {i j : Nat} (hi : i < ls.length) (hj : j < ls.length) (h : St.okP ls i j = true) : OkX ls (St.prf ls i j) := ⟨hi, hj, St.okP_ne h, prf_bd hin hi hj⟩
def BtP (bl g1 g2 : Nat) (v : Value) (t : Txt) (p : St.Prf) (W : World) (e : Ending) (W' : World) : Prop := (∃ v, e = .returned v) ∧ BsM bl g1 g2 v t p W' ∧ Sv2 g1 g2 W W'
theorem BsM.put {bl g1 g2 : Nat} {v : Value} {t : Txt} {p : St.Prf} {W W2 : World} (h : BsM bl g1 g2 v t p W2) (hs : Sv2 g1 g2 W W2) (h1 : bl ≠ g1) (h2 : bl ≠ g2) (h3 : g1 ≠ g2) (t' : Txt) (p' : St.Prf) :
    (BsM bl g1 g2 v t' p' (((((W2.setCell ⟨g1, 0, none⟩ (.string ⟨t'.toArray⟩)).setCell ⟨g2, 0, none⟩ (.int .i64 (p'.i : Int))).setCell ⟨g2, 1, none⟩ (.int .i64 (p'.j : Int))).setCell ⟨g2, 2, none⟩ (.int .i64 p'.area)).setCell ⟨g2, 3, none⟩ (.int .i64 (p'.far : Int))).drew ∧
      Sv2 g1 g2 W (((((W2.setCell ⟨g1, 0, none⟩ (.string ⟨t'.toArray⟩)).setCell ⟨g2, 0, none⟩ (.int .i64 (p'.i : Int))).setCell ⟨g2, 1, none⟩ (.int .i64 (p'.j : Int))).setCell ⟨g2, 2, none⟩ (.int .i64 p'.area)).setCell ⟨g2, 3, none⟩ (.int .i64 (p'.far : Int))).drew) ∧
    (BsM bl g1 g2 v t' p' (((((W2.setCell ⟨g2, 0, none⟩ (.int .i64 (p'.i : Int))).setCell ⟨g2, 1, none⟩ (.int .i64 (p'.j : Int))).setCell ⟨g2, 2, none⟩ (.int .i64 p'.area)).setCell ⟨g2, 3, none⟩ (.int .i64 (p'.far : Int))).setCell ⟨g1, 0, none⟩ (.string ⟨t'.toArray⟩)).drew ∧
      Sv2 g1 g2 W (((((W2.setCell ⟨g2, 0, none⟩ (.int .i64 (p'.i : Int))).setCell ⟨g2, 1, none⟩ (.int .i64 (p'.j : Int))).setCell ⟨g2, 2, none⟩ (.int .i64 p'.area)).setCell ⟨g2, 3, none⟩ (.int .i64 (p'.far : Int))).setCell ⟨g1, 0, none⟩ (.string ⟨t'.toArray⟩)).drew) := by
  obtain ⟨pi, pj, pa, pf⟩ := p
  obtain ⟨qi, qj, qa, qf⟩ := p'
  obtain ⟨hl, hb, ho⟩ := h
  have k1 : (W2.setCell ⟨g1, 0, none⟩ (.string ⟨t'.toArray⟩)).heap[g1]? = some (.cells #[.string ⟨t'.toArray⟩] 27 (0, 0)) := s1row hb
  have k2 : (W2.setCell ⟨g1, 0, none⟩ (.string ⟨t'.toArray⟩)).heap[g2]? = some (.cells #[.int .i64 (pi : Int), .int .i64 (pj : Int), .int .i64 pa, .int .i64 (pf : Int)] 44 (0, 0)) := (heap_setCell_other _ _ _ _ h3.symm).trans ho
  have k3 : (W2.setCell ⟨g1, 0, none⟩ (.string ⟨t'.toArray⟩)).heap[bl]? = some (.cells #[v] 22 (0, 0)) := (heap_setCell_other _ _ _ _ h1).trans hl
  have m1 := s4row (v0 := .int .i64 (qi : Int)) (v1 := .int .i64 (qj : Int)) (v2 := .int .i64 qa) (v3 := .int .i64 (qf : Int)) k2
  have m2 := s4row (v0 := .int .i64 (qi : Int)) (v1 := .int .i64 (qj : Int)) (v2 := .int .i64 qa) (v3 := .int .i64 (qf : Int)) ho
  have n1 := o4row (w := W2.setCell ⟨g1, 0, none⟩ (.string ⟨t'.toArray⟩)) (v0 := .int .i64 (qi : Int)) (v1 := .int .i64 (qj : Int)) (v2 := .int .i64 qa) (v3 := .int .i64 (qf : Int)) h2
  have n2 := o4row (w := W2.setCell ⟨g1, 0, none⟩ (.string ⟨t'.toArray⟩)) (v0 := .int .i64 (qi : Int)) (v1 := .int .i64 (qj : Int)) (v2 := .int .i64 qa) (v3 := .int .i64 (qf : Int)) h3
  have n3 := o4row (w := W2) (v0 := .int .i64 (qi : Int)) (v1 := .int .i64 (qj : Int)) (v2 := .int .i64 qa) (v3 := .int .i64 (qf : Int)) h2
  have n4 := o4row (w := W2) (v0 := .int .i64 (qi : Int)) (v1 := .int .i64 (qj : Int)) (v2 := .int .i64 qa) (v3 := .int .i64 (qf : Int)) h3
  have e1 := (((((hs.set1 0 (.string ⟨t'.toArray⟩)).set2 0 (.int .i64 (qi : Int))).set2 1 (.int .i64 (qj : Int))).set2 2 (.int .i64 qa)).set2 3 (.int .i64 (qf : Int))).drew
  have e2 := (((((hs.set2 0 (.int .i64 (qi : Int))).set2 1 (.int .i64 (qj : Int))).set2 2 (.int .i64 qa)).set2 3 (.int .i64 (qf : Int))).set1 0 (.string ⟨t'.toArray⟩)).drew
  refine ⟨⟨BsM.drew ⟨?_, ?_, ?_⟩, e1⟩, ⟨BsM.drew ⟨?_, ?_, ?_⟩, e2⟩⟩
  · exact Eq.trans n1 k3
  · exact Eq.trans n2 k1
  · exact m1
  · exact (heap_setCell_other _ _ _ _ h1).trans (n3.trans hl)
  · exact s1row (n4.trans hb)
  · exact (heap_setCell_other _ _ _ _ h3.symm).trans m2
set_option maxRecDepth 100000 in
set_option maxHeartbeats 4000000 in
theorem better_c {v : Value} (ls : List St.Pt) (s : Option St.Prf) (x : St.Prf) (bl g1 g2 : Nat) (W : World) (hg : Good W) (S : SlX W v ls) (hin : ∀ p ∈ ls, St.InP p) (hn : ls.length ≤ 64) (hx : OkX ls x) (hs : ∀ y, s = some y → OkX ls y)
    (hM : BsM bl g1 g2 v (stT ls s) (stP s) W) (d1 : bl ≠ g1) (d2 : bl ≠ g2) (d3 : g1 ≠ g2) :
    Calls Tryz.prog 25 #[prfV x, .pointer (some ⟨bl, 0, none⟩), .pointer (some ⟨g1, 0, none⟩), .pointer (some ⟨g2, 0, none⟩)] W (BtP bl g1 g2 v (stT ls (St.bet ls s x)) (stP (St.bet ls s x)) W) := by
  have HG := Lib.hid (fun W' (h : Below W.heap.size W W') => hg.later h)
  have hA := below_al W (.cells (prfC x) 44)
  have HSQ := Lib.hid (fun W' (h : Below W.heap.size W W') => square_c ls x W' (hg.later h) (S.later h) hin hx.i hx.j hx.ne hx.area hn)
  have hM1 := hM.later hA
  have hq : W.heap.size ≠ g1 ∧ W.heap.size ≠ g2 := ⟨fun e => by have := (Array.getElem?_eq_some_iff.1 hM.b).1; omega, fun e => by have := (Array.getElem?_eq_some_iff.1 hM.o).1; omega⟩
  have hxc : (W.alloc (.cells (prfC x) 44)).heap[W.heap.size]? = some (.cells (prfC x) 44 (0, 0)) := heap_alloc_new W _
  have HP := Lib.hid (fun (W2 : World) (t : Txt) (p : St.Prf) (h : BsM bl g1 g2 v t p W2) (hs : Sv2 g1 g2 W W2) => h.put hs d1 d2 d3 (rtoa (St.wv ls x)) x)
  obtain ⟨sa, cap, rfl⟩ := S.len
  have hby := @bet_yes ls s x
  have hbn := @bet_no ls s x
  have szx := hx.sz hin
  have szs : ∀ y, s = some y → szQ (St.wv ls y) 24 := fun y e => (hs y e).sz hin
  rcases s with _ | y
  · have hb := hby (.inl rfl)
    rw [hb]
    change BsM bl g1 g2 (.slice sa ls.length cap) [] ⟨0, 0, 0, 0⟩ (W.alloc (.cells (prfC x) 44)) at hM1
    show Calls _ _ _ _ (BtP bl g1 g2 (.slice sa ls.length cap) (rtoa (St.wv ls x)) x W)
    generalize rtoa (St.wv ls x) = T at *
    obtain ⟨xi, xj, xa, xf⟩ := x
    clear hby hbn hb szx szs hs hx hin hM
    have l0 := c1row hM1.l
    obtain ⟨k0, k1, k2, k3⟩ := c4row hxc
    go_enter Tryz.func25, Tryz.ntmps25
    go_wp2_with fail
    generalize W.alloc (.cells #[.int .i64 (xi : Int), .int .i64 (xj : Int), .int .i64 xa, .int .i64 (xf : Int)] 44) = W1 at *
    ((with_reducible refine (HSQ.out _ hA).mono ?_); rintro e w1 ⟨rfl, hb1⟩)
    have hM2 := hM1.later hb1
    have hxc2 : w1.heap[W.heap.size]? = some (.cells #[.int .i64 (xi : Int), .int .i64 (xj : Int), .int .i64 xa, .int .i64 (xf : Int)] 44 (0, 0)) := by rw [hb1.block _ (Array.getElem?_eq_some_iff.1 hxc).1]; exact hxc
    have hB2 := hA.nx hb1
    have b0 := c1row hM2.b
    obtain ⟨o0, o1, o2, o3⟩ := c4row hM2.o
    obtain ⟨m0, m1, m2, m3⟩ := c4row hxc2
    have f1 := fun k => free_row hM2.b k
    have f2 := fun k => free_row hM2.o k
    have HPP := Lib.hid (HP.out w1 _ _ hM2 (Sv2.of hB2))
    clear l0 k0 k1 k2 k3 hxc hM1 hA hM2 hxc2 hB2 HP HSQ hb1
    obtain ⟨q1, q2⟩ := hq
    have q3 := q1.symm
    have q4 := q2.symm
    have d4 := d3.symm
    go_wp2_with fail
    go_region
    all_goals
      go_end0
      exact ⟨⟨_, rfl⟩, by first | exact HPP.out.1 | exact HPP.out.2⟩
  · have hless := fun W' (h : Below W.heap.size W W') => sless_c (St.wv ls x) (St.wv ls y) W' (hg.later h) (szx.mono (by decide)) ((szs y rfl).mono (by decide))
    change BsM bl g1 g2 (.slice sa ls.length cap) (rtoa (St.wv ls y)) y (W.alloc (.cells (prfC x) 44)) at hM1
    have hbt : ∀ (q : Bool), decide (St.wv ls x < St.wv ls y) = q → St.bet ls (some y) x = if q = true then some x else some y := fun q e => by
      cases q with
      | true => exact hby (.inr (of_decide_eq_true e))
      | false => exact hbn rfl (of_decide_eq_false e)
    have hT2 := rtoa_nn (St.wv ls y)
    generalize hqq : decide (St.wv ls x < St.wv ls y) = qq at *
    have HLS := Lib.hid hless
    have hst : ∀ z : St.Prf, stT ls (some z) = rtoa (St.wv ls z) := fun _ => rfl
    have hsp : ∀ z : St.Prf, stP (some z) = z := fun _ => rfl
    rw [hbt qq rfl]
    have HRES : BtP bl g1 g2 (.slice sa ls.length cap) (stT ls (if qq = true then some x else some y)) (stP (if qq = true then some x else some y)) W = BtP bl g1 g2 (.slice sa ls.length cap) (if qq = true then rtoa (St.wv ls x) else rtoa (St.wv ls y)) (if qq = true then x else y) W := by cases qq <;> rfl
    rw [HRES]
    generalize rtoa (St.wv ls x) = T at *
    generalize rtoa (St.wv ls y) = T2 at *
    obtain ⟨xi, xj, xa, xf⟩ := x
    obtain ⟨yi, yj, ya, yf⟩ := y
    have y1 : (T2 == []) = false := beq_eq_false_iff_ne.2 hT2
    have y3 : T2.isEmpty = false := by cases q : T2 with | nil => exact absurd q hT2 | cons _ _ => rfl
    obtain ⟨tt, htt⟩ : ∃ t, (if qq = true then T else T2) = t := ⟨_, rfl⟩
    obtain ⟨pp, hpp⟩ : ∃ p : St.Prf, (if qq = true then ⟨xi, xj, xa, xf⟩ else ⟨yi, yj, ya, yf⟩) = p := ⟨_, rfl⟩
    rw [htt, hpp]
    have HTT := Lib.hid htt
    have HPQ := Lib.hid hpp
    clear hby hbn szx szs hs hx hin hM hbt hT2 hqq hless hst hsp HRES htt hpp
    have l0 := c1row hM1.l
    obtain ⟨k0, k1, k2, k3⟩ := c4row hxc
    go_enter Tryz.func25, Tryz.ntmps25
    go_wp2_with fail
    generalize W.alloc (.cells #[.int .i64 (xi : Int), .int .i64 (xj : Int), .int .i64 xa, .int .i64 (xf : Int)] 44) = W1 at *
    ((with_reducible refine (HSQ.out _ hA).mono ?_); rintro e w1 ⟨rfl, hb1⟩)
    have hM2 := hM1.later hb1
    have hxc2 : w1.heap[W.heap.size]? = some (.cells #[.int .i64 (xi : Int), .int .i64 (xj : Int), .int .i64 xa, .int .i64 (xf : Int)] 44 (0, 0)) := by rw [hb1.block _ (Array.getElem?_eq_some_iff.1 hxc).1]; exact hxc
    have hB2 := hA.nx hb1
    have b0 := c1row hM2.b
    clear l0 k0 k1 k2 k3 hxc hM1 hA HSQ hb1
    go_wp2_with fail
    ((with_reducible refine (HLS.out _ hB2).mono ?_); rintro e w2 ⟨rfl, hb2⟩)
    have hM3 := hM2.later hb2
    have hxc3 : w2.heap[W.heap.size]? = some (.cells #[.int .i64 (xi : Int), .int .i64 (xj : Int), .int .i64 xa, .int .i64 (xf : Int)] 44 (0, 0)) := by rw [hb2.block _ (Array.getElem?_eq_some_iff.1 hxc2).1]; exact hxc2
    have hB3 := hB2.nx hb2
    cases qq with
    | false =>
      clear b0 hM2 hxc2 hxc3
      obtain rfl := HTT.out
      obtain rfl := HPQ.out
      go_wp2
      go_end0
      exact ⟨⟨_, rfl⟩, hM3, Sv2.of hB3⟩
    | true =>
      obtain rfl := HTT.out
      obtain rfl := HPQ.out
      have c0 := c1row hM3.b
      obtain ⟨o0, o1, o2, o3⟩ := c4row hM3.o
      obtain ⟨m0, m1, m2, m3⟩ := c4row hxc3
      have f1 := fun k => free_row hM3.b k
      have f2 := fun k => free_row hM3.o k
      have HPP := Lib.hid (HP.out w2 _ _ hM3 (Sv2.of hB3))
      clear b0 hM2 hxc2 hxc3 hM3 hB2 hB3 HP hb2
      obtain ⟨q1, q2⟩ := hq
      have q3 := q1.symm
      have q4 := q2.symm
      have d4 := d3.symm
      go_wp2_with fail
      go_region
      all_goals
        go_end0
        exact ⟨⟨_, rfl⟩, by first | exact HPP.out.1 | exact HPP.out.2⟩
end Go.Proofs.Wk
/- STRAIGHTNESS: the iterator over the proofs. -/
namespace Go.Proofs.Wk
open Go.RowKit Go.Rng Mt
attribute [local go_sem] Oper.semAt_some

def PfFn (v : Value) (w : World) (e : Ending) (w' : World) : Prop := e = .returned (.func (.func 53) #[] #[.pointer (some ⟨w.heap.size, 0, none⟩)]) ∧ w' = w.alloc (.cells #[v] 22)
set_option maxRecDepth 100000 in
theorem proofs_c (a : Option Addr) (n cap : Nat) (w : World) : Calls Tryz.prog 28 #[.slice a n cap] w (PfFn (.slice a n cap) w) := by
  go_enter Tryz.func28, Tryz.ntmps28
  go_wp2
  go_ret
  exact ⟨rfl, rfl⟩
/-- How the iterator ends, and how a round is answered. -/
def PfP (J : Option St.Prf → World → Prop) (s : Option St.Prf) (e : Ending) (w : World) : Prop := (∃ v, e = .returned v) ∧ J s w
def PfY (J : Option St.Prf → World → Prop) (s : Option St.Prf) (e : Ending) (w : World) : Prop := e = .returned (.bool true) ∧ J s w
set_option maxRecDepth 100000 in
set_option maxHeartbeats 4000000 in
theorem proofs_in {v : Value} (ls : List St.Pt) (hin : ∀ p ∈ ls, St.InP p) (h0 : 0 < ls.length) (hn : ls.length ≤ 64) (cb l : Nat) (J : Option St.Prf → World → Prop) (hJ : ∀ s W1 W2, J s W1 → Below W1.heap.size W1 W2 → J s W2)
    (hJc : ∀ s W1, J s W1 → W1.cell? ⟨cb, 0, none⟩ = some v ∧ SlX W1 v ls)
    (hgo : ∀ s x W1, OkX ls x → J s W1 → YieldAt Fence.wide 0 Tryz.prog l #[prfV x] W1 (PfY J (St.bet ls s x)))
    (s0 : Option St.Prf) (W : World) (hj : J s0 W) :
    CallsIn Fence.wide 0 Tryz.prog 53 #[.func (.yield l) #[] #[], .pointer (some ⟨cb, 0, none⟩)] W (PfP J (St.allB ls 0 s0)) := by
  obtain ⟨E, hE⟩ : ∃ E, St.allB ls 0 s0 = E := ⟨_, rfl⟩
  rw [hE]
  obtain ⟨sa, cap, rfl⟩ := (hJc _ _ hj).2.len
  have HE := Lib.hid hE
  have HJ0 := Lib.hid hj
  have HJS := Lib.hid hJ
  have HJC := Lib.hid hJc
  have HGO := Lib.hid hgo
  have HSUP := Lib.hid (fun (i j : Nat) (hi : i < ls.length) (hj : j < ls.length) (W : World) (S : SlX W (.slice sa ls.length cap) ls) => supporting_c ls i j W S hin hi hj hn)
  have HOKX := Lib.hid (fun (i j : Nat) (hi : i < ls.length) (hj : j < ls.length) (h : St.okP ls i j = true) => okX_prf hin hi hj h)
  have c0 := (hJc _ _ hj).1
  clear hE hj hJ hJc hgo hin
  refine callsIn_of_wp Tryz.func53 rfl trivial ?_
  simp only [Tryz.ntmps53, List.size_toArray, List.length_cons, List.length_nil, Nat.reduceAdd, Nat.reduceSub, Array.replicate_succ, Array.replicate_zero, List.push_toArray, List.append_toArray, List.nil_append, List.cons_append]
  gi_wp2
  gi_loopw [9] (fun si wr => ∃ (i : Nat) (s : Option St.Prf), si = .int .i64 (i : Int) ∧ i ≤ ls.length ∧ Hid (St.allB ls i s = E) ∧ Hid (J s wr)) (fun si _ => ls.length - (intOf si).toNat)
  case atStart => exact ⟨0, s0, rfl, Nat.zero_le _, HE.out, HJ0.out⟩
  case round =>
    obtain ⟨i, s, rfl, hi, hs, hjw⟩ := hrel
    by_cases hlt : i < ls.length
    · have hst := hs.out
      rw [St.allB_step hlt] at hst
      have HST := Lib.hid hst
      clear hst hs c0
      gi_wp2_with fail
      gi_loopw [4] (fun sj wr => ∃ (j : Nat) (s : Option St.Prf), sj = .int .i64 (j : Int) ∧ i < j ∧ j ≤ ls.length ∧ Hid (St.allB ls (i + 1) (St.rowB ls i j s) = E) ∧ Hid (J s wr)) (fun sj _ => ls.length - (intOf sj).toNat)
      case atStart => exact ⟨i + 1, s, by go_num, by omega, by omega, HST.out, hjw.out⟩
      case round =>
        clear HST hjw
        obtain ⟨j, s2, rfl, hij, hj, hs2, hjw⟩ := hrel
        have c0 := (HJC.out _ _ hjw.out).1
        by_cases hlt2 : j < ls.length
        · have hst2 := hs2.out
          rw [St.rowB_step hlt2] at hst2
          have HSP := Lib.hid (HSUP.out i j hlt hlt2)
          have HOX := Lib.hid (HOKX.out i j hlt hlt2)
          clear hs2
          cases hok : St.okP ls i j with
          | false =>
            rw [hok] at HSP hst2
            have HST2 := Lib.hid (show St.allB ls (i + 1) (St.rowB ls i (j + 1) s2) = E from hst2)
            clear hst2 hok HOX
            generalize St.prf ls i j = x at *
            obtain ⟨xi, xj, xa, xf⟩ := x
            gi_wp2_with fail
            refine ⟨trivial, rfl, ?_⟩
            refine (callsIn_wide.2 (HSP.out _ (HJC.out _ _ hjw.out).2)).mono ?_
            rintro e w2 ⟨rfl, hb2⟩
            have HJ2 := Lib.hid (HJS.out _ _ _ (HJS.out _ _ _ hjw.out hb2) (below_al w2 (.cells #[.int .i64 (xi : Int), .int .i64 (xj : Int), .int .i64 xa, .int .i64 (xf : Int)] 44)))
            clear hjw hb2 c0
            gi_wp2_with fail
            refine ⟨fun f hf => (by cases hf), ?_⟩
            gi_wp2
            go_roundw
            case rel => exact ⟨j + 1, s2, by go_num, by omega, by omega, HST2.out, HJ2.out⟩
            case measure => simp [intOf]; omega
          | true =>
            rw [hok] at HSP hst2
            have HST2 := Lib.hid (show St.allB ls (i + 1) (St.rowB ls i (j + 1) (St.bet ls s2 (St.prf ls i j))) = E from hst2)
            have hox := HOX.out hok
            clear hst2 hok HOX
            generalize St.prf ls i j = x at *
            have HOX := Lib.hid hox
            have hgx := fun W1 hj1 => HGO.out s2 x W1 hox hj1
            generalize St.bet ls s2 x = s3 at *
            obtain ⟨xi, xj, xa, xf⟩ := x
            have HGX := Lib.hid hgx
            clear hgx hox
            gi_wp2_with fail
            refine ⟨trivial, rfl, ?_⟩
            refine (callsIn_wide.2 (HSP.out _ (HJC.out _ _ hjw.out).2)).mono ?_
            rintro e w2 ⟨rfl, hb2⟩
            have hj2 := HJS.out _ _ _ (HJS.out _ _ _ hjw.out hb2) (below_al w2 (.cells #[.int .i64 (xi : Int), .int .i64 (xj : Int), .int .i64 xa, .int .i64 (xf : Int)] 44))
            obtain ⟨fn, tmps, assign, body, hy, hRd⟩ := HGX.out _ hj2
            have HRD := Lib.hid hRd
            clear hRd hj2 hjw hb2 c0 HGX
            gi_wp2_with fail
            refine ⟨rfl, ?_⟩
            refine HRD.out.mono ?_
            rintro e w3 ⟨rfl, hj3⟩
            have HJ3 := Lib.hid hj3
            clear hj3 HRD hy
            gi_wp2
            go_roundw
            case rel => exact ⟨j + 1, s3, by go_num, by omega, by omega, HST2.out, HJ3.out⟩
            case measure => simp [intOf]; omega
        · obtain rfl : j = ls.length := by omega
          have hs3 := hs2.out
          rw [St.rowB_end (Nat.le_refl _)] at hs3
          have HS3 := Lib.hid hs3
          clear hs3 hs2
          gi_wp2
          go_roundw
          case rel => exact ⟨i + 1, s2, by go_num, by omega, HS3.out, hjw.out⟩
          case measure => simp [intOf]; omega
    · obtain rfl : i = ls.length := by omega
      have hs := hs.out
      rw [St.allB_end (Nat.le_refl _)] at hs
      subst hs
      clear HE
      gi_wp2
      refine bodyPost_ret (results_none rfl _ _ _) rfl ?_
      exact ⟨⟨_, rfl⟩, hjw.out⟩
end Go.Proofs.Wk
/- STRAIGHTNESS: the least width. -/
namespace Go.Proofs.Wk
open Go.RowKit Go.Rng Mt
attribute [local go_sem] Oper.semAt_some

theorem pob {B : Nat} {w0 W : World} (h : Below B w0 W) {l : Nat} (hl : B ≤ l) (o : Obj) : Below B w0 (W.putObj l o) :=
  ⟨h.os, h.tape, h.output, by rw [World.putObj_size]; exact h.size, fun k hk => by rw [World.putObj_heap_other (by omega)]; exact h.block k hk⟩
theorem alloc_at {W : World} {o : Obj} {n : Nat} (h : W.heap.size = n) : (W.alloc o).heap[n]? = some o := by subst h; exact heap_alloc_new W o
/-- What lies in memory while the proofs are ranged over. -/
structure LtI (ls : List St.Pt) (v : Value) (w W : World) (s : Option St.Prf) (lp : Obj) : Prop where
  m : BsM w.heap.size (w.heap.size + 2) (w.heap.size + 3) v (stT ls s) (stP s) W
  r : W.heap[w.heap.size + 1]? = some (.cells #[.int .i64 0, .int .i64 0, .int .i64 0, .int .i64 0] 44 (0, 0))
  f : W.heap[w.heap.size + 4]? = some (.cells #[.func (.func 25) #[] #[.pointer (some ⟨w.heap.size, 0, none⟩), .pointer (some ⟨w.heap.size + 2, 0, none⟩), .pointer (some ⟨w.heap.size + 3, 0, none⟩)]] 70 (0, 0))
  c : W.heap[w.heap.size + 5]? = some (.cells #[v] 22 (0, 0))
  d : W.heap[w.heap.size + 6]? = some (.deferred (some []))
  lp : W.heap[w.heap.size + 7]? = some lp
  w : Below w.heap.size w W
  ok : ∀ y, s = some y → OkX ls y
theorem LtI.sv {ls : List St.Pt} {v : Value} {w W W' : World} {s s' : Option St.Prf} {lp : Obj} (h : LtI ls v w W s lp) (hm : BsM w.heap.size (w.heap.size + 2) (w.heap.size + 3) v (stT ls s') (stP s') W') (hs : Sv2 (w.heap.size + 2) (w.heap.size + 3) W W')
    (hok : ∀ y, s' = some y → OkX ls y) : LtI ls v w W' s' lp := by
  have l1 := (Array.getElem?_eq_some_iff.1 h.lp).1
  refine ⟨hm, ?_, ?_, ?_, ?_, ?_, ⟨hs.os.trans h.w.os, hs.tape.trans h.w.tape, hs.output.trans h.w.output, Nat.le_trans h.w.size hs.size, fun k hk => ?_⟩, hok⟩
  · rw [hs.block _ (by omega) (by omega) (by omega)]; exact h.r
  · rw [hs.block _ (by omega) (by omega) (by omega)]; exact h.f
  · rw [hs.block _ (by omega) (by omega) (by omega)]; exact h.c
  · rw [hs.block _ (by omega) (by omega) (by omega)]; exact h.d
  · rw [hs.block _ (by omega) (by omega) (by omega)]; exact h.lp
  · rw [hs.block _ (by omega) (by omega) (by omega)]; exact h.w.block k hk
theorem LtI.later {ls : List St.Pt} {v : Value} {w W W' : World} {s : Option St.Prf} {lp : Obj} (h : LtI ls v w W s lp) (hb : Below W.heap.size W W') : LtI ls v w W' s lp :=
  h.sv (h.m.later hb) (Sv2.of hb) h.ok
theorem LtI.put {ls : List St.Pt} {v : Value} {w W : World} {s : Option St.Prf} {lp : Obj} (h : LtI ls v w W s lp) (o : Obj) : LtI ls v w (W.putObj (w.heap.size + 7) o) s o := by
  have l1 := (Array.getElem?_eq_some_iff.1 h.lp).1
  refine ⟨⟨?_, ?_, ?_⟩, ?_, ?_, ?_, ?_, World.putObj_heap_same l1, pob h.w (by omega) _, h.ok⟩
  · rw [World.putObj_heap_other (by omega)]; exact h.m.l
  · rw [World.putObj_heap_other (by omega)]; exact h.m.b
  · rw [World.putObj_heap_other (by omega)]; exact h.m.o
  · rw [World.putObj_heap_other (by omega)]; exact h.r
  · rw [World.putObj_heap_other (by omega)]; exact h.f
  · rw [World.putObj_heap_other (by omega)]; exact h.c
  · rw [World.putObj_heap_other (by omega)]; exact h.d
/-- What is left at the end. -/
structure LtF (w W : World) (p : St.Prf) : Prop where
  r : W.heap[w.heap.size + 1]? = some (.cells (prfC p) 44 (0, 0))
  d : W.heap[w.heap.size + 6]? = some (.deferred (some []))
  w : Below w.heap.size w W
theorem LtI.fin {ls : List St.Pt} {v : Value} {w W : World} {s : Option St.Prf} {lp : Obj} (h : LtI ls v w W s lp) (p : St.Prf) :
    LtF w ((((W.setCell ⟨w.heap.size + 1, 0, none⟩ (.int .i64 (p.i : Int))).setCell ⟨w.heap.size + 1, 1, none⟩ (.int .i64 (p.j : Int))).setCell ⟨w.heap.size + 1, 2, none⟩ (.int .i64 p.area)).setCell ⟨w.heap.size + 1, 3, none⟩ (.int .i64 (p.far : Int))) p := by
  obtain ⟨pi, pj, pa, pf⟩ := p
  refine ⟨s4row h.r, ?_, b4row h.w (by omega)⟩
  exact Eq.trans (o4row (show w.heap.size + 6 ≠ w.heap.size + 1 by omega)) h.d
theorem LtF.drew {w W : World} {p : St.Prf} (h : LtF w W p) : LtF w W.drew p := ⟨h.r, h.d, h.w.drew⟩
theorem LtF.put {w W : World} {p : St.Prf} (h : LtF w W p) (o : Obj) : (W.putObj (w.heap.size + 6) o).heap[w.heap.size + 1]? = some (.cells (prfC p) 44 (0, 0)) := by
  rw [World.putObj_heap_other (by omega)]; exact h.r
/-- Where the range begins. -/
structure LtS (v : Value) (w W : World) : Prop where
  m : BsM w.heap.size (w.heap.size + 2) (w.heap.size + 3) v [] ⟨0, 0, 0, 0⟩ W
  r : W.heap[w.heap.size + 1]? = some (.cells #[.int .i64 0, .int .i64 0, .int .i64 0, .int .i64 0] 44 (0, 0))
  f : W.heap[w.heap.size + 4]? = some (.cells #[.func (.func 25) #[] #[.pointer (some ⟨w.heap.size, 0, none⟩), .pointer (some ⟨w.heap.size + 2, 0, none⟩), .pointer (some ⟨w.heap.size + 3, 0, none⟩)]] 70 (0, 0))
  c : W.heap[w.heap.size + 5]? = some (.cells #[v] 22 (0, 0))
  size : W.heap.size = w.heap.size + 6
  w : Below w.heap.size w W
theorem lt_start (v : Value) (w : World) : LtS v w ((((((w.alloc (.cells #[v] 22)).alloc (.cells #[.int .i64 0, .int .i64 0, .int .i64 0, .int .i64 0] 44)).alloc (.cells #[.string ⟨#[]⟩] 27)).alloc
    (.cells #[.int .i64 0, .int .i64 0, .int .i64 0, .int .i64 0] 44)).alloc (.cells #[.func (.func 25) #[] #[.pointer (some ⟨w.heap.size, 0, none⟩), .pointer (some ⟨w.heap.size + 2, 0, none⟩), .pointer (some ⟨w.heap.size + 3, 0, none⟩)]] 70)).alloc
    (.cells #[v] 22)) := by
  generalize ho0 : Obj.cells #[v] 22 = o0
  generalize ho1 : Obj.cells #[.int .i64 0, .int .i64 0, .int .i64 0, .int .i64 0] 44 = o1
  generalize ho2 : Obj.cells #[.string ⟨#[]⟩] 27 = o2
  generalize ho4 : Obj.cells #[.func (.func 25) #[] #[.pointer (some ⟨w.heap.size, 0, none⟩), .pointer (some ⟨w.heap.size + 2, 0, none⟩), .pointer (some ⟨w.heap.size + 3, 0, none⟩)]] 70 = o4
  have s1 : (w.alloc o0).heap.size = w.heap.size + 1 := by simp
  have h0 := heap_alloc_new w o0
  have b0 := below_al w o0
  generalize w.alloc o0 = W1 at *
  have s2 : (W1.alloc o1).heap.size = w.heap.size + 2 := by simp; omega
  have h1 := alloc_at (o := o1) s1
  have b1 := below_al W1 o1
  generalize W1.alloc o1 = W2 at *
  have s3 : (W2.alloc o2).heap.size = w.heap.size + 3 := by simp; omega
  have h2 := alloc_at (o := o2) s2
  have b2 := below_al W2 o2
  generalize W2.alloc o2 = W3 at *
  have s4 : (W3.alloc o1).heap.size = w.heap.size + 4 := by simp; omega
  have h3 := alloc_at (o := o1) s3
  have b3 := below_al W3 o1
  generalize W3.alloc o1 = W4 at *
  have s5 : (W4.alloc o4).heap.size = w.heap.size + 5 := by simp; omega
  have h4 := alloc_at (o := o4) s4
  have b4 := below_al W4 o4
  generalize W4.alloc o4 = W5 at *
  have s6 : (W5.alloc o0).heap.size = w.heap.size + 6 := by simp; omega
  have h5 := alloc_at (o := o0) s5
  have b5 := below_al W5 o0
  generalize W5.alloc o0 = W6 at *
  subst ho0 ho1 ho2 ho4
  refine ⟨⟨?_, ?_, ?_⟩, ?_, ?_, h5, s6, ((((b0.nx b1).nx b2).nx b3).nx b4).nx b5⟩
  · rw [b5.block _ (by omega), b4.block _ (by omega), b3.block _ (by omega), b2.block _ (by omega), b1.block _ (by omega)]; exact h0
  · rw [b5.block _ (by omega), b4.block _ (by omega), b3.block _ (by omega)]; exact h2
  · rw [b5.block _ (by omega), b4.block _ (by omega)]; exact h3
  · rw [b5.block _ (by omega), b4.block _ (by omega), b3.block _ (by omega), b2.block _ (by omega)]; exact h1
  · rw [b5.block _ (by omega)]; exact h4
set_option maxRecDepth 100000 in
set_option maxHeartbeats 1000000 in
theorem least_c {v : Value} (ls : List St.Pt) (w : World) (hg : Good w) (S : SlX w v ls) (hin : ∀ p ∈ ls, St.InP p) (h0 : 0 < ls.length) (hn : ls.length ≤ 64) :
    Calls Tryz.prog 14 #[v] w (Ret w (.tuple #[.string ⟨(rtoa (bsQ ls (St.least ls))).toArray⟩, prfV (stP (St.least ls))])) := by
  have hE : St.allB ls 0 none = St.least ls := rfl
  generalize St.least ls = E at *
  have HPF := Lib.hid (fun a n cap W => proofs_c a n cap W)
  obtain ⟨sa, cap, rfl⟩ := S.len
  have HIN := Lib.hid hin
  have HS := Lib.hid S
  have HG := Lib.hid hg
  clear hin S hg
  refine calls_marks Tryz.func14 rfl ?_
  simp only [Tryz.ntmps14, List.size_toArray, List.length_cons, List.length_nil, Nat.reduceAdd, Nat.reduceSub, Array.replicate_succ, Array.replicate_zero, List.push_toArray, List.append_toArray, List.nil_append, List.cons_append]
  go_wp2_with fail
  ((with_reducible refine (HPF.out _ _ _ _).mono ?_); rintro e w' ⟨rfl, rfl⟩)
  go_wp2_with fail
  have hs := lt_start (.slice sa ls.length cap) w
  simp only [Nat.add_assoc, Nat.reduceAdd]
  generalize ((((((w.alloc (.cells #[.slice sa ls.length cap] 22)).alloc (.cells #[.int .i64 0, .int .i64 0, .int .i64 0, .int .i64 0] 44)).alloc (.cells #[.string ⟨#[]⟩] 27)).alloc
    (.cells #[.int .i64 0, .int .i64 0, .int .i64 0, .int .i64 0] 44)).alloc (.cells #[.func (.func 25) #[] #[.pointer (some ⟨w.heap.size, 0, none⟩), .pointer (some ⟨w.heap.size + 2, 0, none⟩), .pointer (some ⟨w.heap.size + 3, 0, none⟩)]] 70)).alloc
    (.cells #[.slice sa ls.length cap] 22)) = W6 at *
  have hsz := hs.size
  have HST := Lib.hid hs
  clear hs
  refine range_named (gf := 53) (lb := #[.pointer (some ⟨w.heap.size + 5, 0, none⟩)]) rfl (enters_of Tryz.func53 (by kernel_rfl) rfl) (fun fn lp hlp => ?_)
  rw [hsz]
  have HLP := Lib.hid hlp
  have b6 := below_al W6 (.deferred (some []))
  have b7 := below_al (W6.alloc (.deferred (some []))) (.loop (lp .ready none))
  have h6 := alloc_at (o := .deferred (some [])) hsz
  have h7 : ((W6.alloc (.deferred (some []))).alloc (.loop (lp .ready none))).heap[w.heap.size + 7]? = some (.loop (lp .ready none)) := alloc_at (by simp; omega)
  have hI : LtI ls (.slice sa ls.length cap) w ((W6.alloc (.deferred (some []))).alloc (.loop (lp .ready none))) none (.loop (lp .ready none)) := by
    have hq := b6.nx b7
    have m := HST.out.m.later hq
    have e6 : (W6.alloc (.deferred (some []))).heap.size = w.heap.size + 7 := by simp; omega
    refine ⟨m, ?_, ?_, ?_, ?_, h7, HST.out.w.nx hq, fun y e => by cases e⟩
    · rw [hq.block _ (by omega)]; exact HST.out.r
    · rw [hq.block _ (by omega)]; exact HST.out.f
    · rw [hq.block _ (by omega)]; exact HST.out.c
    · rw [b7.block _ (by omega)]; exact h6
  generalize (W6.alloc (.deferred (some []))).alloc (.loop (lp .ready none)) = W8 at *
  clear b6 b7 h6 h7 HST hlp hsz HPF
  refine (proofs_in (v := .slice sa ls.length cap) ls HIN.out h0 hn (w.heap.size + 5) (w.heap.size + 7) (fun s W => LtI ls (.slice sa ls.length cap) w W s (.loop (lp .ready none)))
    (fun s W1 W2 h k => h.later k) (fun s W1 h => ⟨c1row h.c, HS.out.later h.w⟩) ?go none W8 hI).mono ?_
  case go =>
    intro s x W1 hx hj
    have hja := hj.later (below_al W1 (.cells (prfC x) 44))
    have hxc : (W1.alloc (.cells (prfC x) 44)).heap[W1.heap.size]? = some (.cells (prfC x) 44 (0, 0)) := heap_alloc_new W1 _
    have hl1 := (Array.getElem?_eq_some_iff.1 hj.lp).1
    have hp := hja.put (.loop (lp .busy none))
    have hxp : ((W1.alloc (.cells (prfC x) 44)).putObj (w.heap.size + 7) (.loop (lp .busy none))).heap[W1.heap.size]? = some (.cells (prfC x) 44 (0, 0)) := by
      rw [World.putObj_heap_other (by omega)]; exact hxc
    have HBT := Lib.hid (fun W' (h : LtI ls (.slice sa ls.length cap) w W' s (.loop (lp .busy none))) => better_c ls s x w.heap.size (w.heap.size + 2) (w.heap.size + 3) W' (HG.out.later h.w) (HS.out.later h.w) HIN.out hn hx h.ok h.m (by omega) (by omega) (by omega))
    have HBO := Lib.hid (show ∀ y, St.bet ls s x = some y → OkX ls y from fun y hy => by
      cases s with
      | none => cases hy; exact hx
      | some z =>
        by_cases c : St.wv ls x < St.wv ls z
        · rw [bet_yes (.inr c)] at hy; cases hy; exact hx
        · rw [bet_no rfl c] at hy; cases hy; exact hj.ok _ rfl)
    obtain ⟨xi, xj, xa, xf⟩ := x
    apply yield_named2 HLP.out (W1.alloc (.cells (prfC ⟨xi, xj, xa, xf⟩) 44)) hj.lp hja.lp rfl
    · intro K hK
      gi_wp2
      exact hK
    · have HP := Lib.hid hp
      have c0 := c1row hp.f
      obtain ⟨k0, k1, k2, k3⟩ := c4row hxp
      generalize (W1.alloc (.cells (prfC ⟨xi, xj, xa, xf⟩) 44)).putObj (w.heap.size + 7) (.loop (lp .busy none)) = W3 at *
      clear hja hp hxp hxc hx hj
      gi_wp2_with fail
      refine ⟨trivial, rfl, ?_⟩
      refine (callsIn_wide.2 (HBT.out _ HP.out)).mono ?_
      rintro e W4 ⟨⟨v, rfl⟩, hm4, hs4⟩
      have hj4 := HP.out.sv hm4 hs4 HBO.out
      have HP4 := Lib.hid hj4
      clear hm4 hs4 hj4 HBT HBO HP c0 k0 k1 k2 k3
      gi_wp2
      exact ⟨HP4.out.lp, rfl, HP4.out.put _⟩
  · rintro e W2 ⟨hv, hh⟩
    refine ⟨hv, .ready, none, hh.lp, by decide, ?_⟩
    rw [hE] at hh
    have hp := hh.put (.loop (lp .exhausted none))
    simp only [After]
    have HP := Lib.hid hp
    have b0 := c1row hp.m.b
    obtain ⟨o0, o1, o2, o3⟩ := c4row hp.m.o
    obtain ⟨r0, r1, r2, r3⟩ := c4row hp.r
    have f1 := fun k => free_row hp.r k
    clear hh hp
    generalize W2.putObj (w.heap.size + 7) (.loop (lp .exhausted none)) = W3 at *
    cases E with
    | none =>
      change W3.cell? ⟨w.heap.size + 2, 0, none⟩ = some (.string ⟨#[]⟩) at b0
      have hz : bsQ ls none = 0 := rfl
      clear hE o0 o1 o2 o3
      go_wp2
      have hf := HP.out.fin ⟨0, 0, 0, 0⟩
      refine postM_ret1 rfl hf.d (res_tc rfl (by kernel_rfl) (hf.put _) Tryz.underlying44 rfl (by kernel_rfl) rfl) ?_
      refine ⟨?_, pob hf.w (by omega) _⟩
      show _ = Ending.returned (.tuple #[.string ⟨(rtoa 0).toArray⟩, prfV ⟨0, 0, 0, 0⟩])
      rw [rtoa_zero]; rfl
    | some x =>
      have hz : bsQ ls (some x) = St.wv ls x := rfl
      have hz2 : stT ls (some x) = rtoa (St.wv ls x) := rfl
      have hz3 : stP (some x) = x := rfl
      rw [hz, hz3]
      rw [hz2] at b0
      rw [hz3] at o0 o1 o2 o3
      have hT2 := rtoa_nn (St.wv ls x)
      generalize hTT : rtoa (St.wv ls x) = T2 at *
      have HTT := Lib.hid hTT
      have y1 : (T2 == []) = false := beq_eq_false_iff_ne.2 hT2
      have y3 : T2.isEmpty = false := by cases q : T2 with | nil => exact absurd q hT2 | cons _ _ => rfl
      have HF := Lib.hid (HP.out.fin x)
      obtain ⟨xi, xj, xa, xf⟩ := x
      simp only at o0 o1 o2 o3
      clear hE hz hz2 hz3 hT2 HP hTT
      go_wp2_with fail
      go_region
      all_goals
        go_wp2
        have hf := HF.out.drew
        refine postM_ret1 rfl hf.d (res_tc rfl (by kernel_rfl) (hf.put _) Tryz.underlying44 rfl (by kernel_rfl) rfl) ?_
        refine ⟨?_, pob hf.w (by omega) _⟩
        show _ = Ending.returned (.tuple #[.string ⟨(rtoa (St.wv ls ⟨xi, xj, xa, xf⟩)).toArray⟩, prfV ⟨xi, xj, xa, xf⟩])
        rw [HTT.out]; rfl
end Go.Proofs.Wk
/- STRAIGHTNESS: Width, in the program and in the reference. -/
namespace Go.Proofs.Wk
open Go.RowKit Mt

def widV (ls : List St.Pt) : Value :=
  if St.givP ls = 0 then .tuple #[.string ⟨(rtoa (bsQ ls (St.least ls))).toArray⟩, .agg #[.int .i64 (bsI (St.least ls) : Int), .int .i64 (bsJ (St.least ls) : Int)], .int .i64 (bsF (St.least ls) : Int), .int .i64 0]
  else .tuple #[.string ⟨#[]⟩, .agg #[.int .i64 0, .int .i64 0], .int .i64 0, .int .i64 (St.givP ls)]
theorem stP_bs (s : Option St.Prf) : (stP s).i = bsI s ∧ (stP s).j = bsJ s ∧ (stP s).far = bsF s := by cases s <;> exact ⟨rfl, rfl, rfl⟩
set_option maxRecDepth 100000 in
set_option maxHeartbeats 2000000 in
theorem Width_c {v : Value} (ls : List St.Pt) (w : World) (hg : Good w) (S : SlX w v ls) (hln : ls.length ≤ 140737488355328) : Calls Tryz.prog 6 #[v] w (Ret w (widV ls)) := by
  have HGV := Lib.hid (fun W (h : Below w.heap.size w W) => given_c ls W (S.later h) hln)
  have hz := heap_alloc_new w (.cells #[.int .i64 0, .int .i64 0] 28)
  have hA := below_al w (.cells #[.int .i64 0, .int .i64 0] 28)
  obtain ⟨sa, cap, rfl⟩ := S.len
  by_cases h0 : St.givP ls = 0
  · obtain ⟨i1, i2, i3⟩ := St.givP_in h0
    have HL := Lib.hid (fun W (h : Below w.heap.size w W) => least_c ls W (hg.later h) (S.later h) i3 i1 i2)
    rw [show widV ls = _ from if_pos h0]
    rw [h0] at HGV
    obtain ⟨e1, e2, e3⟩ := stP_bs (St.least ls)
    rw [← e1, ← e2, ← e3]
    generalize rtoa (bsQ ls (St.least ls)) = T at *
    generalize stP (St.least ls) = x at *
    obtain ⟨xi, xj, xa, xf⟩ := x
    simp only
    clear h0 i1 i2 i3 S hg hln e1 e2 e3
    go_enter Tryz.func6, Tryz.ntmps6
    go_wp2_with fail
    generalize w.alloc (.cells #[.int .i64 0, .int .i64 0] 28) = W1 at *
    ((with_reducible refine (HGV.out _ hA).mono ?_); rintro e w1 ⟨rfl, hb1⟩)
    have hB1 := hA.nx hb1
    have hz1 : w1.heap[w.heap.size]? = some (.cells #[.int .i64 0, .int .i64 0] 28 (0, 0)) := by rw [hb1.block _ (Array.getElem?_eq_some_iff.1 hz).1]; exact hz
    clear hb1 hz hA HGV
    go_wp2_with fail
    ((with_reducible refine (HL.out _ hB1).mono ?_); rintro e w2 ⟨rfl, hb2⟩)
    have hA2 := below_al w2 (.cells #[.int .i64 (xi : Int), .int .i64 (xj : Int), .int .i64 xa, .int .i64 (xf : Int)] 44)
    have hB2 := (hB1.nx hb2).nx hA2
    have hz2 : w2.heap[w.heap.size]? = some (.cells #[.int .i64 0, .int .i64 0] 28 (0, 0)) := by rw [hb2.block _ (Array.getElem?_eq_some_iff.1 hz1).1]; exact hz1
    have hz3 : (w2.alloc (.cells #[.int .i64 (xi : Int), .int .i64 (xj : Int), .int .i64 xa, .int .i64 (xf : Int)] 44)).heap[w.heap.size]? = some (.cells #[.int .i64 0, .int .i64 0] 28 (0, 0)) := by
      rw [hA2.block _ (Array.getElem?_eq_some_iff.1 hz2).1]; exact hz2
    have hx3 := heap_alloc_new w2 (.cells #[.int .i64 (xi : Int), .int .i64 (xj : Int), .int .i64 xa, .int .i64 (xf : Int)] 44)
    have hne : w.heap.size < w2.heap.size := (Array.getElem?_eq_some_iff.1 hz2).1
    clear hB1 hz1 hb2 hA2 hz2 HL
    go_wp2_with fail
    generalize w2.alloc (.cells #[.int .i64 (xi : Int), .int .i64 (xj : Int), .int .i64 xa, .int .i64 (xf : Int)] 44) = W3 at *
    obtain ⟨k0, k1, k2, k3⟩ := c4row hx3
    obtain ⟨z0, z1⟩ := c2row hz3
    have hf := fun k => free_row hz3 k
    have q1 : ¬ w2.heap.size = w.heap.size := by omega
    have q2 : ¬ w.heap.size = w2.heap.size := by omega
    go_region
    all_goals
      go_wp2
      refine bodyPost_ret (res_tctt rfl (by kernel_rfl) (s2rowd hz3) Tryz.underlying28 rfl (by kernel_rfl) rfl rfl rfl) rfl ?_
      exact ⟨rfl, (b2row hB2 (Nat.le_refl _)).drew⟩
  · rw [show widV ls = _ from if_neg h0]
    generalize St.givP ls = E at *
    have z : (E != 0) = true := bne_iff_ne.2 h0
    clear h0 S hg hln
    go_enter Tryz.func6, Tryz.ntmps6
    go_wp2_with fail
    generalize w.alloc (.cells #[.int .i64 0, .int .i64 0] 28) = W1 at *
    ((with_reducible refine (HGV.out _ hA).mono ?_); rintro e w1 ⟨rfl, hb1⟩)
    have hB1 := hA.nx hb1
    have hz1 : w1.heap[w.heap.size]? = some (.cells #[.int .i64 0, .int .i64 0] 28 (0, 0)) := by rw [hb1.block _ (Array.getElem?_eq_some_iff.1 hz).1]; exact hz
    obtain ⟨z0, z1⟩ := c2row hz1
    have hf := fun k => free_row hz1 k
    clear hb1 hz hA HGV
    go_wp2
    refine bodyPost_ret (res_tctt rfl (by kernel_rfl) (s2row hz1) Tryz.underlying28 rfl (by kernel_rfl) rfl rfl rfl) rfl ?_
    exact ⟨rfl, b2row hB1 (Nat.le_refl _)⟩
end Go.Proofs.Wk
/- STRAIGHTNESS: the width across a line, in the program and in the reference. -/
namespace Go.Proofs.Wk
open Go.RowKit Mt

end Go.Proofs.Wk
/- STRAIGHTNESS: whether all points are equal; slices.ContainsFunc over points. -/
namespace Go.Proofs.Wk
open Go.RowKit Mt

def IxP (w : World) (B : Bool) (e : Ending) (w' : World) : Prop := ∃ n : Int, e = .returned (.int .i64 n) ∧ decide (0 ≤ n) = B ∧ Below w.heap.size w w'
/-- 'p != l[0]'. -/
def neP (ls : List St.Pt) (p : St.Pt) : Bool := !decide (p = St.at_ ls 0)
end Go.Proofs.Wk
/- STRAIGHTNESS: the farthest points. -/
namespace Go.Proofs.Wk
open Go.RowKit Mt

structure LsG (w W : World) (g i j : Nat) : Prop where
  r : W.heap[w.heap.size]? = some (.cells #[.int .i64 0, .int .i64 0] 28 (0, 0))
  o : W.heap[g]? = some (.cells #[.int .i64 (i : Int), .int .i64 (j : Int)] 28 (0, 0))
  lt : w.heap.size < g
  w : Below w.heap.size w W
theorem LsG.later {w W W' : World} {g i j : Nat} (h : LsG w W g i j) (hb : Below W.heap.size W W') : LsG w W' g i j :=
  ⟨by rw [hb.block _ (Array.getElem?_eq_some_iff.1 h.r).1]; exact h.r, by rw [hb.block _ (Array.getElem?_eq_some_iff.1 h.o).1]; exact h.o, h.lt, h.w.nx hb⟩
theorem LsG.drew {w W : World} {g i j : Nat} (h : LsG w W g i j) : LsG w W.drew g i j := ⟨h.r, h.o, h.lt, h.w.drew⟩
theorem LsG.put {w W : World} {g i j : Nat} (h : LsG w W g i j) (i' j' : Nat) : LsG w ((W.setCell ⟨g, 0, none⟩ (.int .i64 (i' : Int))).setCell ⟨g, 1, none⟩ (.int .i64 (j' : Int))) g i' j' :=
  have := h.lt
  ⟨(o2row (show w.heap.size ≠ g by omega)).trans h.r, s2row h.o, h.lt, b2row h.w (by omega)⟩
/-- The same beside a boxed point and one in a row. -/
structure FrI (w W : World) (g gp b o i j : Nat) (p q : St.Pt) : Prop where
  s : LsG w W g i j
  p : PtAt W gp 0 p
  q : PtAt W b o q
theorem FrI.later {w W W' : World} {g gp b o i j : Nat} {p q : St.Pt} (h : FrI w W g gp b o i j p q) (hb : Below W.heap.size W W') : FrI w W' g gp b o i j p q := ⟨h.s.later hb, h.p.later hb, h.q.later hb⟩
theorem FrI.drew {w W : World} {g gp b o i j : Nat} {p q : St.Pt} (h : FrI w W g gp b o i j p q) : FrI w W.drew g gp b o i j p q := ⟨h.s.drew, h.p.drew, h.q.drew⟩
theorem FrI.t {w W : World} {g gp b o i j : Nat} {px py qx qy : Int} (h : FrI w W g gp b o i j ⟨px, py⟩ ⟨qx, qy⟩) :
    W.cell? ⟨gp, 0, none⟩ = some (.int .i64 px) ∧ W.cell? ⟨gp, 1, none⟩ = some (.int .i64 py) ∧ W.cell? ⟨b, o, none⟩ = some (.int .i64 qx) ∧ W.cell? ⟨b, o + 1, none⟩ = some (.int .i64 qy) ∧ FrI w W g gp b o i j ⟨px, py⟩ ⟨qx, qy⟩ :=
  ⟨h.p.c0, h.p.c1, h.q.c0, h.q.c1, h⟩
theorem PtAt.row {W : World} {g : Nat} {p : St.Pt} {T : TypeId} {fr : Nat × Nat} (h : W.heap[g]? = some (.cells #[.int .i64 p.x, .int .i64 p.y] T fr)) : PtAt W g 0 p := ⟨(c2row h).1, (c2row h).2⟩
end Go.Proofs.Wk
/- STRAIGHTNESS: the farthest points in the reference; Ends. -/
namespace Go.Proofs.Wk
open Go.RowKit Mt

structure FqI (w W : World) (g b o1 o2 i j : Nat) (p q : St.Pt) : Prop where
  s : LsG w W g i j
  p : PtAt W b o1 p
  q : PtAt W b o2 q
theorem FqI.later {w W W' : World} {g b o1 o2 i j : Nat} {p q : St.Pt} (h : FqI w W g b o1 o2 i j p q) (hb : Below W.heap.size W W') : FqI w W' g b o1 o2 i j p q := ⟨h.s.later hb, h.p.later hb, h.q.later hb⟩
theorem FqI.drew {w W : World} {g b o1 o2 i j : Nat} {p q : St.Pt} (h : FqI w W g b o1 o2 i j p q) : FqI w W.drew g b o1 o2 i j p q := ⟨h.s.drew, h.p.drew, h.q.drew⟩
theorem FqI.t {w W : World} {g b o1 o2 i j : Nat} {px py qx qy : Int} (h : FqI w W g b o1 o2 i j ⟨px, py⟩ ⟨qx, qy⟩) :
    W.cell? ⟨b, o1, none⟩ = some (.int .i64 px) ∧ W.cell? ⟨b, o1 + 1, none⟩ = some (.int .i64 py) ∧ W.cell? ⟨b, o2, none⟩ = some (.int .i64 qx) ∧ W.cell? ⟨b, o2 + 1, none⟩ = some (.int .i64 qy) ∧ FqI w W g b o1 o2 i j ⟨px, py⟩ ⟨qx, qy⟩ :=
  ⟨h.p.c0, h.p.c1, h.q.c0, h.q.c1, h⟩
/-- What Ends returns. -/
def endE (ls : List St.Pt) : Txt × Int :=
  if St.givP ls = 0 then (if St.same ls = true then ([], 10) else (rtoa (St.wq (St.acr ls (St.at_ ls (St.farL ls).2.1) (St.at_ ls (St.farL ls).2.2)) (St.at_ ls (St.farL ls).2.1) (St.at_ ls (St.farL ls).2.2)), 0)) else ([], St.givP ls)
/-- What Ends reads. -/
structure EnR (w W : World) (gp b o1 o2 i j : Nat) (p q : St.Pt) : Prop where
  o : W.heap[gp]? = some (.cells #[.int .i64 (i : Int), .int .i64 (j : Int)] 28 (0, 0))
  p : PtAt W b o1 p
  q : PtAt W b o2 q
  w : Below w.heap.size w W
theorem EnR.later {w W W' : World} {gp b o1 o2 i j : Nat} {p q : St.Pt} (h : EnR w W gp b o1 o2 i j p q) (hb : Below W.heap.size W W') : EnR w W' gp b o1 o2 i j p q :=
  ⟨by rw [hb.block _ (Array.getElem?_eq_some_iff.1 h.o).1]; exact h.o, h.p.later hb, h.q.later hb, h.w.nx hb⟩
theorem EnR.drew {w W : World} {gp b o1 o2 i j : Nat} {p q : St.Pt} (h : EnR w W gp b o1 o2 i j p q) : EnR w W.drew gp b o1 o2 i j p q := ⟨h.o, h.p.drew, h.q.drew, h.w.drew⟩
theorem EnR.t {w W : World} {gp b o1 o2 i j : Nat} {px py qx qy : Int} (h : EnR w W gp b o1 o2 i j ⟨px, py⟩ ⟨qx, qy⟩) :
    W.cell? ⟨gp, 0, none⟩ = some (.int .i64 (i : Int)) ∧ W.cell? ⟨gp, 1, none⟩ = some (.int .i64 (j : Int)) ∧ W.cell? ⟨b, o1, none⟩ = some (.int .i64 px) ∧ W.cell? ⟨b, o1 + 1, none⟩ = some (.int .i64 py) ∧ W.cell? ⟨b, o2, none⟩ = some (.int .i64 qx) ∧ W.cell? ⟨b, o2 + 1, none⟩ = some (.int .i64 qy) ∧
      EnR w W gp b o1 o2 i j ⟨px, py⟩ ⟨qx, qy⟩ :=
  ⟨(c2row h.o).1, (c2row h.o).2, h.p.c0, h.p.c1, h.q.c0, h.q.c1, h⟩
end Go.Proofs.Wk
/- STRAIGHTNESS: Ends and Across, in the program and in the reference. -/
namespace Go.Proofs.Wk
open Go.RowKit Mt

/-- What Across returns. -/
def acrE (ls : List St.Pt) (a b : St.Pt) : Txt × Int :=
  if St.givP ls = 0 then (if St.inB a = true ∧ St.inB b = true then (if a = b then ([], 10) else (rtoa (St.wq (St.acr ls a b) a b), 0)) else ([], 2)) else ([], St.givP ls)
end Go.Proofs.Wk
/- STRAIGHTNESS: Across and Within, in the program and in the reference. -/
namespace Go.Proofs.Wk
open Go.RowKit Mt

end Go.Proofs.Wk
/- STRAIGHTNESS: the width and a tolerance. -/
namespace Go.Proofs.Wk
open Go.RowKit Mt

theorem bsQ_wid (ls : List St.Pt) : bsQ ls (St.least ls) = St.wid ls := by unfold St.wid; cases St.least ls <;> rfl
def tolE (t : Int) : Int := if 0 ≤ t ∧ t ≤ 100000 then 0 else 2
theorem wid_sz {ls : List St.Pt} (hin : ∀ p ∈ ls, St.InP p) : szQ (St.wid ls) 24 := by
  cases q : St.least ls with
  | none => unfold St.wid; rw [q]; exact szQ_zero.mono (by decide)
  | some x =>
    obtain ⟨h1, h2, h3, h4, h5, h6, h7⟩ := St.least_pair q
    have hx : St.wid ls = St.wv ls x := by unfold St.wid; rw [q]
    rw [hx, h5]
    exact prf_sz hin (by omega) h2 h4
/-- What Within returns. -/
def withE (ls : List St.Pt) (t : Int) : Bool × Int := if St.givP ls = 0 then (if 0 ≤ t ∧ t ≤ 100000 then (St.keeps ls t, 0) else (false, 2)) else (false, St.givP ls)
abbrev bint (r : Bool × Int) : Value := .tuple #[.bool r.1, .int .i64 r.2]
end Go.Proofs.Wk
/- STRAIGHTNESS: points chosen by their indices; lists of ints that are equal. -/
namespace Go.Proofs.Wk
open Go.RowKit Mt

abbrev ptZ : Value := .agg #[.int .i64 0, .int .i64 0]
/-- A slice of points that a call has made. -/
def NewP (w : World) (ms : List St.Pt) (e : Ending) (w' : World) : Prop := ∃ v, e = .returned v ∧ SlX w' v ms ∧ Below w.heap.size w w'
end Go.Proofs.Wk
/- STRAIGHTNESS: lists of ints that are equal. -/
namespace Go.Proofs.Wk
open Go.RowKit Mt

def nA (xs : List Nat) (i : Nat) : Nat := xs.getD i 0
theorem nA_get {xs : List Nat} {i : Nat} (h : i < xs.length) : nA xs i = xs[i] := by unfold nA; rw [List.getD_eq_getElem?_getD, List.getElem?_eq_getElem h]; rfl
theorem RX.nA {w : World} {b off : Nat} {ls : List Nat} (h : RX w b off ls) {i : Nat} (hi : i < ls.length) : w.cell? ⟨b, off + i, none⟩ = some (.int .i64 (nA ls i : Int)) := by rw [nA_get hi]; exact h.nat hi
end Go.Proofs.Wk
