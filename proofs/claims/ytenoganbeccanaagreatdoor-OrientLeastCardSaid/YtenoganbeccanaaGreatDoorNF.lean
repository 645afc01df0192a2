/- STRAIGHTNESS: the square of a proof; the reference's Supports and Farthest. -/
import Derived.Test.YtenoganbeccanaaGreatDoorNE
import Derived.Test.YtenoganbeccanaaGreatDoorHD
import Derived.RegionTactic
import Derived.ChangeAlike
import Derived.Test.YtenoganbeccanaaGreatDoorRng
import Derived.RangeFuncBound
import Derived.Shelf.Abstract
import Derived.Shelf.RegionOpen
import Derived.OwnWalkIn
import Derived.TacticsInMore
import Derived.LoopNIn
import Derived.LoopIn
import Derived.Deep.RegionHeld3
import Derived.Laws.EntriesVeiled
import Derived.Test.YtenoganbeccanaaGreatDoorHE
namespace Go.Proofs.Wk
open Go.RowKit Mt

/-- Three points in a row. -/
structure P3R (w W : World) (b o1 o2 o3 : Nat) (a c p : St.Pt) : Prop where
  a : PtAt W b o1 a
  c : PtAt W b o2 c
  p : PtAt W b o3 p
  w : Below w.heap.size w W
theorem P3R.later {w W W' : World} {b o1 o2 o3 : Nat} {a c p : St.Pt} (h : P3R w W b o1 o2 o3 a c p) (hb : Below W.heap.size W W') : P3R w W' b o1 o2 o3 a c p := ⟨h.a.later hb, h.c.later hb, h.p.later hb, h.w.nx hb⟩
theorem P3R.drew {w W : World} {b o1 o2 o3 : Nat} {a c p : St.Pt} (h : P3R w W b o1 o2 o3 a c p) : P3R w W.drew b o1 o2 o3 a c p := ⟨h.a.drew, h.c.drew, h.p.drew, h.w.drew⟩
theorem P3R.t {w W : World} {b o1 o2 o3 : Nat} {ax ay cx cy px py : Int} (h : P3R w W b o1 o2 o3 ⟨ax, ay⟩ ⟨cx, cy⟩ ⟨px, py⟩) :
    W.cell? ⟨b, o1, none⟩ = some (.int .i64 ax) ∧ W.cell? ⟨b, o1 + 1, none⟩ = some (.int .i64 ay) ∧ W.cell? ⟨b, o2, none⟩ = some (.int .i64 cx) ∧ W.cell? ⟨b, o2 + 1, none⟩ = some (.int .i64 cy) ∧
    W.cell? ⟨b, o3, none⟩ = some (.int .i64 px) ∧ W.cell? ⟨b, o3 + 1, none⟩ = some (.int .i64 py) ∧ P3R w W b o1 o2 o3 ⟨ax, ay⟩ ⟨cx, cy⟩ ⟨px, py⟩ :=
  ⟨h.a.c0, h.a.c1, h.c.c0, h.c.c1, h.p.c0, h.p.c1, h⟩
theorem rs_drop {ls : List St.Pt} {k : Nat} (hk : k < ls.length) (a b : St.Pt) (s : Bool × Bool) : St.rsF a b (ls.drop k) s = St.rsF a b (ls.drop (k + 1)) (s.1 || decide (0 < St.left a b (St.at_ ls k)), s.2 || decide (St.left a b (St.at_ ls k) < 0)) := by
  rw [List.drop_eq_getElem_cons hk, St.rsF, St.at_get hk]
end Go.Proofs.Wk
/- STRAIGHTNESS: the reference's farthest point from a line. -/
namespace Go.Proofs.Wk
open Go.RowKit Mt

/-- Two boxed points, and one in a row. -/
structure FaR (w W : World) (b o : Nat) (a c p : St.Pt) : Prop where
  x : Bx2 w W a c
  p : PtAt W b o p
theorem FaR.later {w W W' : World} {b o : Nat} {a c p : St.Pt} (h : FaR w W b o a c p) (hb : Below W.heap.size W W') : FaR w W' b o a c p := ⟨h.x.later hb, h.p.later hb⟩
theorem FaR.drew {w W : World} {b o : Nat} {a c p : St.Pt} (h : FaR w W b o a c p) : FaR w W.drew b o a c p := ⟨h.x.drew, h.p.drew⟩
theorem FaR.t {w W : World} {b o : Nat} {ax ay cx cy px py : Int} (h : FaR w W b o ⟨ax, ay⟩ ⟨cx, cy⟩ ⟨px, py⟩) :
    W.cell? ⟨w.heap.size, 0, none⟩ = some (.int .i64 ax) ∧ W.cell? ⟨w.heap.size, 1, none⟩ = some (.int .i64 ay) ∧ W.cell? ⟨w.heap.size + 1, 0, none⟩ = some (.int .i64 cx) ∧ W.cell? ⟨w.heap.size + 1, 1, none⟩ = some (.int .i64 cy) ∧
    W.cell? ⟨b, o, none⟩ = some (.int .i64 px) ∧ W.cell? ⟨b, o + 1, none⟩ = some (.int .i64 py) ∧ FaR w W b o ⟨ax, ay⟩ ⟨cx, cy⟩ ⟨px, py⟩ :=
  ⟨h.x.a.c0, h.x.a.c1, h.x.b.c0, h.x.b.c1, h.p.c0, h.p.c1, h⟩
theorem rf_drop {ls : List St.Pt} {k : Nat} (hk : k < ls.length) (a b : St.Pt) (q : Rat) (f : Nat) :
    St.rfF a b (ls.drop k) k (q, f) = St.rfF a b (ls.drop (k + 1)) (k + 1) (if q < St.wq (St.left a b (St.at_ ls k)) a b then (St.wq (St.left a b (St.at_ ls k)) a b, k) else (q, f)) := by
  rw [List.drop_eq_getElem_cons hk, St.rfF, St.at_get hk]
theorem left_sz {a c p : St.Pt} (ha : St.InP a) (hc : St.InP c) (hp : St.InP p) (hne : a ≠ c) : szQ (St.wq (St.left a c p) a c) 24 :=
  wq_szQ (by have := (St.left_bd ha hc hp).2.2; omega) (by have := (St.far_bd ha hc).2.2; omega) hne
end Go.Proofs.Wk
/- STRAIGHTNESS: the reference's least width. -/
namespace Go.Proofs.Wk
open Go.RowKit Mt

theorem prf_bd {ls : List St.Pt} (hin : ∀ p ∈ ls, St.InP p) {i j : Nat} (hi : i < ls.length) (hj : j < ls.length) : 0 ≤ (St.prf ls i j).area ∧ (St.prf ls i j).area ≤ 80000000000 := by
  obtain ⟨h1, -, h3⟩ := St.prf_area ls i j
  refine ⟨h1, ?_⟩
  rcases h3 with ⟨e, -⟩ | ⟨hm, e⟩
  · omega
  · have := (St.left_bd (St.at_in hin hi) (St.at_in hin hj) (St.at_in hin hm)).2.2
    omega
theorem prf_sz {ls : List St.Pt} (hin : ∀ p ∈ ls, St.InP p) {i j : Nat} (hi : i < ls.length) (hj : j < ls.length) (hok : St.okP ls i j = true) : szQ (St.wv ls (St.prf ls i j)) 24 :=
  wq_szQ (by have := prf_bd hin hi hj; omega) (by have := (St.far_bd (St.at_in hin hi) (St.at_in hin hj)).2.2; exact this.2) (St.okP_ne hok)
/-- The best width till now: its number, its pair, its farthest point. -/
def bsQ (ls : List St.Pt) : Option St.Prf → Rat | none => 0 | some x => St.wv ls x
def bsI : Option St.Prf → Nat | none => 0 | some x => x.i
def bsJ : Option St.Prf → Nat | none => 0 | some x => x.j
def bsF : Option St.Prf → Nat | none => 0 | some x => x.far
theorem bet_yes {ls : List St.Pt} {s : Option St.Prf} {x : St.Prf} (h : s = none ∨ St.wv ls x < bsQ ls s) : St.bet ls s x = some x := by
  cases s with
  | none => rfl
  | some y =>
    rcases h with h | h
    · cases h
    · exact if_pos h
theorem bet_no {ls : List St.Pt} {s : Option St.Prf} {x : St.Prf} (h : s.isSome = true) (h2 : ¬ St.wv ls x < bsQ ls s) : St.bet ls s x = s := by
  cases s with
  | none => cases h
  | some y => exact if_neg h2
structure LsR (w W : World) (i j : Nat) : Prop where
  r : W.heap[w.heap.size]? = some (.cells #[.int .i64 0, .int .i64 0] 44 (0, 0))
  o : W.heap[w.heap.size + 1]? = some (.cells #[.int .i64 (i : Int), .int .i64 (j : Int)] 44 (0, 0))
  w : Below w.heap.size w W
theorem LsR.later {w W W' : World} {i j : Nat} (h : LsR w W i j) (hb : Below W.heap.size W W') : LsR w W' i j :=
  ⟨by rw [hb.block _ (Array.getElem?_eq_some_iff.1 h.r).1]; exact h.r, by rw [hb.block _ (Array.getElem?_eq_some_iff.1 h.o).1]; exact h.o, h.w.nx hb⟩
theorem LsR.drew {w W : World} {i j : Nat} (h : LsR w W i j) : LsR w W.drew i j := ⟨h.r, h.o, h.w.drew⟩
theorem LsR.new (w : World) : LsR w ((w.alloc (.cells #[.int .i64 0, .int .i64 0] 44)).alloc (.cells #[.int .i64 0, .int .i64 0] 44)) 0 0 :=
  ⟨by rw [heap_alloc_old _ _ (by rw [World.size_alloc]; omega)]; exact heap_alloc_new w _, new2 w _ _, bx2 w _ _⟩
theorem LsR.put {w W : World} {i j : Nat} (h : LsR w W i j) (i' j' : Nat) : LsR w ((W.setCell ⟨w.heap.size + 1, 0, none⟩ (.int .i64 (i' : Int))).setCell ⟨w.heap.size + 1, 1, none⟩ (.int .i64 (j' : Int))) i' j' :=
  ⟨(o2row (show w.heap.size ≠ w.heap.size + 1 by omega)).trans h.r, s2row h.o, b2row h.w (by omega)⟩
/-- Two points in a row, beside the state. -/
structure P2R (w W : World) (b o1 o2 : Nat) (a c : St.Pt) (i j : Nat) : Prop where
  a : PtAt W b o1 a
  c : PtAt W b o2 c
  s : LsR w W i j
theorem P2R.later {w W W' : World} {b o1 o2 : Nat} {a c : St.Pt} {i j : Nat} (h : P2R w W b o1 o2 a c i j) (hb : Below W.heap.size W W') : P2R w W' b o1 o2 a c i j := ⟨h.a.later hb, h.c.later hb, h.s.later hb⟩
theorem P2R.drew {w W : World} {b o1 o2 : Nat} {a c : St.Pt} {i j : Nat} (h : P2R w W b o1 o2 a c i j) : P2R w W.drew b o1 o2 a c i j := ⟨h.a.drew, h.c.drew, h.s.drew⟩
theorem P2R.t {w W : World} {b o1 o2 : Nat} {ax ay cx cy : Int} {i j : Nat} (h : P2R w W b o1 o2 ⟨ax, ay⟩ ⟨cx, cy⟩ i j) :
    W.cell? ⟨b, o1, none⟩ = some (.int .i64 ax) ∧ W.cell? ⟨b, o1 + 1, none⟩ = some (.int .i64 ay) ∧ W.cell? ⟨b, o2, none⟩ = some (.int .i64 cx) ∧ W.cell? ⟨b, o2 + 1, none⟩ = some (.int .i64 cy) ∧ P2R w W b o1 o2 ⟨ax, ay⟩ ⟨cx, cy⟩ i j :=
  ⟨h.a.c0, h.a.c1, h.c.c0, h.c.c1, h⟩
end Go.Proofs.Wk
/- STRAIGHTNESS: the better of two proofs. -/
namespace Go.Proofs.Wk
open Go.RowKit Mt

/-- Only two blocks may have changed. -/
structure Sv2 (g1 g2 : Nat) (W W' : World) : Prop where
  os : W'.os = W.os
  tape : W'.tape = W.tape
  output : W'.output = W.output
  size : W.heap.size ≤ W'.heap.size
  block : ∀ k, k < W.heap.size → k ≠ g1 → k ≠ g2 → W'.heap[k]? = W.heap[k]?
theorem Sv2.of {g1 g2 : Nat} {W W' : World} (h : Below W.heap.size W W') : Sv2 g1 g2 W W' := ⟨h.os, h.tape, h.output, h.size, fun k hk _ _ => h.block k hk⟩
theorem Sv2.set1 {g1 g2 : Nat} {W W' : World} (h : Sv2 g1 g2 W W') (j : Nat) (v : Value) : Sv2 g1 g2 W (W'.setCell ⟨g1, j, none⟩ v) :=
  ⟨h.os, h.tape, h.output, by rw [show (W'.setCell ⟨g1, j, none⟩ v).heap.size = W'.heap.size by simp [World.setCell]]; exact h.size, fun k hk h1 h2 => (heap_setCell_other _ _ _ _ h1).trans (h.block k hk h1 h2)⟩
theorem Sv2.set2 {g1 g2 : Nat} {W W' : World} (h : Sv2 g1 g2 W W') (j : Nat) (v : Value) : Sv2 g1 g2 W (W'.setCell ⟨g2, j, none⟩ v) :=
  ⟨h.os, h.tape, h.output, by rw [show (W'.setCell ⟨g2, j, none⟩ v).heap.size = W'.heap.size by simp [World.setCell]]; exact h.size, fun k hk h1 h2 => (heap_setCell_other _ _ _ _ h2).trans (h.block k hk h1 h2)⟩
theorem Sv2.drew {g1 g2 : Nat} {W W' : World} (h : Sv2 g1 g2 W W') : Sv2 g1 g2 W W'.drew := ⟨h.os, h.tape, h.output, h.size, h.block⟩
theorem rtoa_nn (q : Rat) : rtoa q ≠ [] := by
  unfold rtoa
  split
  · exact itoa_ne_nil _
  · simp
/-- The best proof till now, as it lies in memory. -/
def stT (ls : List St.Pt) : Option St.Prf → Txt | none => [] | some x => rtoa (St.wv ls x)
def stP : Option St.Prf → St.Prf | none => ⟨0, 0, 0, 0⟩ | some x => x
/-- A proof that may be asked. -/
structure OkX (ls : List St.Pt) (x : St.Prf) : Prop where
  i : x.i < ls.length
  j : x.j < ls.length
  ne : St.at_ ls x.i ≠ St.at_ ls x.j
  area : 0 ≤ x.area ∧ x.area ≤ 80000000000
theorem OkX.sz {ls : List St.Pt} {x : St.Prf} (hin : ∀ p ∈ ls, St.InP p) (h : OkX ls x) : szQ (St.wv ls x) 24 :=
  wq_szQ (by have := h.area; omega) (by have := (St.far_bd (St.at_in hin h.i) (St.at_in hin h.j)).2.2; exact this.2) h.ne
theorem okX_prf {ls : List St.Pt} (hin : ∀ p ∈ ls, St.InP p) {i j : Nat} (hi : i < ls.length) (hj : j < ls.length) (h : St.okP ls i j = true) : OkX ls (St.prf ls i j) := ⟨hi, hj, St.okP_ne h, prf_bd hin hi hj⟩
end Go.Proofs.Wk
/- STRAIGHTNESS: the iterator over the proofs. -/
namespace Go.Proofs.Wk
open Go.RowKit Go.Rng Mt
attribute [local go_sem] Oper.semAt_some

/-- How the iterator ends, and how a round is answered. -/
def PfP (J : Option St.Prf → World → Prop) (s : Option St.Prf) (e : Ending) (w : World) : Prop := (∃ v, e = .returned v) ∧ J s w
def PfY (J : Option St.Prf → World → Prop) (s : Option St.Prf) (e : Ending) (w : World) : Prop := e = .returned (.bool true) ∧ J s w
end Go.Proofs.Wk
/- STRAIGHTNESS: the least width. -/
namespace Go.Proofs.Wk
open Go.RowKit Go.Rng Mt
attribute [local go_sem] Oper.semAt_some

theorem pob {B : Nat} {w0 W : World} (h : Below B w0 W) {l : Nat} (hl : B ≤ l) (o : Obj) : Below B w0 (W.putObj l o) :=
  ⟨h.os, h.tape, h.output, by rw [World.putObj_size]; exact h.size, fun k hk => by rw [World.putObj_heap_other (by omega)]; exact h.block k hk⟩
theorem alloc_at {W : World} {o : Obj} {n : Nat} (h : W.heap.size = n) : (W.alloc o).heap[n]? = some o := by subst h; exact heap_alloc_new W o
end Go.Proofs.Wk
/- STRAIGHTNESS: Width, in the program and in the reference. -/
namespace Go.Proofs.Wk
open Go.RowKit Mt

def widV (ls : List St.Pt) : Value :=
  if St.givP ls = 0 then .tuple #[.string ⟨(rtoa (bsQ ls (St.least ls))).toArray⟩, .agg #[.int .i64 (bsI (St.least ls) : Int), .int .i64 (bsJ (St.least ls) : Int)], .int .i64 (bsF (St.least ls) : Int), .int .i64 0]
  else .tuple #[.string ⟨#[]⟩, .agg #[.int .i64 0, .int .i64 0], .int .i64 0, .int .i64 (St.givP ls)]
theorem stP_bs (s : Option St.Prf) : (stP s).i = bsI s ∧ (stP s).j = bsJ s ∧ (stP s).far = bsF s := by cases s <;> exact ⟨rfl, rfl, rfl⟩
end Go.Proofs.Wk
/- STRAIGHTNESS: the width across a line, in the program and in the reference. -/
namespace Go.Proofs.Wk
open Go.RowKit Mt

theorem lo_drop {ls : List St.Pt} {k : Nat} (hk : k < ls.length) (a b : St.Pt) (n : Int) : St.loF a b (ls.drop k) n = St.loF a b (ls.drop (k + 1)) (min n (St.left a b (St.at_ ls k))) := by
  rw [List.drop_eq_getElem_cons hk, St.loF, St.at_get hk]
theorem hi_drop {ls : List St.Pt} {k : Nat} (hk : k < ls.length) (a b : St.Pt) (n : Int) : St.hiF a b (ls.drop k) n = St.hiF a b (ls.drop (k + 1)) (max n (St.left a b (St.at_ ls k))) := by
  rw [List.drop_eq_getElem_cons hk, St.hiF, St.at_get hk]
theorem acr_bd {ls : List St.Pt} (hin : ∀ p ∈ ls, St.InP p) (h0 : 0 < ls.length) {a b : St.Pt} (ha : St.InP a) (hb : St.InP b) : -160000000000 ≤ St.acr ls a b ∧ St.acr ls a b ≤ 160000000000 := by
  obtain ⟨-, x, hx, y, hy, e⟩ := St.acr_spec (l := ls) a b (List.length_pos_iff.1 h0)
  have h1 := (St.left_bd ha hb (hin x hx)).2.2
  have h2 := (St.left_bd ha hb (hin y hy)).2.2
  omega
end Go.Proofs.Wk
/- STRAIGHTNESS: whether all points are equal; slices.ContainsFunc over points. -/
namespace Go.Proofs.Wk
open Go.RowKit Mt

def IxP (w : World) (B : Bool) (e : Ending) (w' : World) : Prop := ∃ n : Int, e = .returned (.int .i64 n) ∧ decide (0 ≤ n) = B ∧ Below w.heap.size w w'
theorem any_step {ls : List St.Pt} {P : St.Pt → Bool} {i : Nat} (hi : i < ls.length) (h : (ls.take i).any P = false) (h2 : P (St.at_ ls i) = false) : (ls.take (i + 1)).any P = false := by
  rw [List.take_succ_eq_append_getElem hi, List.any_append, h, ← St.at_get hi]
  simp [h2]
theorem any_yes {ls : List St.Pt} {P : St.Pt → Bool} {i : Nat} (hi : i < ls.length) (h2 : P (St.at_ ls i) = true) : ls.any P = true := List.any_eq_true.2 ⟨_, St.at_mem hi, h2⟩
/-- 'p != l[0]'. -/
def neP (ls : List St.Pt) (p : St.Pt) : Bool := !decide (p = St.at_ ls 0)
theorem any_ne (ls : List St.Pt) : ls.any (neP ls) = !St.same ls := by
  unfold St.same neP
  rw [← List.not_all_eq_any_not]
theorem same_bad {ls : List St.Pt} {i : Nat} (hi : i < ls.length) (h : St.at_ ls i ≠ St.at_ ls 0) : St.same ls = false := by
  unfold St.same
  exact List.all_eq_false.2 ⟨_, St.at_mem hi, by simpa using h⟩
end Go.Proofs.Wk
/- STRAIGHTNESS: the farthest points. -/
namespace Go.Proofs.Wk
open Go.RowKit Mt

structure LsG (w W : World) (g i j : Nat) : Prop where
  r : W.heap[w.heap.size]? = some (.cells #[.int .i64 0, .int .i64 0] 44 (0, 0))
  o : W.heap[g]? = some (.cells #[.int .i64 (i : Int), .int .i64 (j : Int)] 44 (0, 0))
  lt : w.heap.size < g
  w : Below w.heap.size w W
theorem LsG.later {w W W' : World} {g i j : Nat} (h : LsG w W g i j) (hb : Below W.heap.size W W') : LsG w W' g i j :=
  ⟨by rw [hb.block _ (Array.getElem?_eq_some_iff.1 h.r).1]; exact h.r, by rw [hb.block _ (Array.getElem?_eq_some_iff.1 h.o).1]; exact h.o, h.lt, h.w.nx hb⟩
theorem LsG.drew {w W : World} {g i j : Nat} (h : LsG w W g i j) : LsG w W.drew g i j := ⟨h.r, h.o, h.lt, h.w.drew⟩
theorem LsG.put {w W : World} {g i j : Nat} (h : LsG w W g i j) (i' j' : Nat) : LsG w ((W.setCell ⟨g, 0, none⟩ (.int .i64 (i' : Int))).setCell ⟨g, 1, none⟩ (.int .i64 (j' : Int))) g i' j' :=
  have := h.lt
  ⟨(o2row (show w.heap.size ≠ g by omega)).trans h.r, s2row h.o, h.lt, b2row h.w (by omega)⟩
/-- The same beside a boxed point and one in a row. -/
structure FrI (w W : World) (g gp b o i j : Nat) (p q : St.Pt) : Prop where
  s : LsG w W g i j
  p : PtAt W gp 0 p
  q : PtAt W b o q
theorem FrI.later {w W W' : World} {g gp b o i j : Nat} {p q : St.Pt} (h : FrI w W g gp b o i j p q) (hb : Below W.heap.size W W') : FrI w W' g gp b o i j p q := ⟨h.s.later hb, h.p.later hb, h.q.later hb⟩
theorem FrI.drew {w W : World} {g gp b o i j : Nat} {p q : St.Pt} (h : FrI w W g gp b o i j p q) : FrI w W.drew g gp b o i j p q := ⟨h.s.drew, h.p.drew, h.q.drew⟩
theorem FrI.t {w W : World} {g gp b o i j : Nat} {px py qx qy : Int} (h : FrI w W g gp b o i j ⟨px, py⟩ ⟨qx, qy⟩) :
    W.cell? ⟨gp, 0, none⟩ = some (.int .i64 px) ∧ W.cell? ⟨gp, 1, none⟩ = some (.int .i64 py) ∧ W.cell? ⟨b, o, none⟩ = some (.int .i64 qx) ∧ W.cell? ⟨b, o + 1, none⟩ = some (.int .i64 qy) ∧ FrI w W g gp b o i j ⟨px, py⟩ ⟨qx, qy⟩ :=
  ⟨h.p.c0, h.p.c1, h.q.c0, h.q.c1, h⟩
theorem PtAt.put2 {W : World} {gp o : Nat} {p : St.Pt} (h : PtAt W gp o p) {g : Nat} (hg : gp ≠ g) (u v : Value) : PtAt ((W.setCell ⟨g, 0, none⟩ u).setCell ⟨g, 1, none⟩ v) gp o p := by
  have e : ((W.setCell ⟨g, 0, none⟩ u).setCell ⟨g, 1, none⟩ v).heap[gp]? = W.heap[gp]? := o2row hg
  exact ⟨(World.cell?_of_block (a := ⟨gp, o, none⟩) e).trans h.c0, (World.cell?_of_block (a := ⟨gp, o + 1, none⟩) e).trans h.c1⟩
theorem PtAt.row {W : World} {g : Nat} {p : St.Pt} {T : TypeId} {fr : Nat × Nat} (h : W.heap[g]? = some (.cells #[.int .i64 p.x, .int .i64 p.y] T fr)) : PtAt W g 0 p := ⟨(c2row h).1, (c2row h).2⟩
theorem FrI.sto {w W : World} {g gp b o i j : Nat} {p q : St.Pt} (h : FrI w W g gp b o i j p q) {g2 : Nat} (hh : gp ≠ g2 ∧ b ≠ g2 ∧ g ≠ g2 ∧ w.heap.size < g2) (u v : Value) : FrI w ((W.setCell ⟨g2, 0, none⟩ u).setCell ⟨g2, 1, none⟩ v) g gp b o i j p q :=
  ⟨⟨(o2row (by omega)).trans h.s.r, (o2row (by omega)).trans h.s.o, h.s.lt, b2row h.s.w (by omega)⟩, h.p.put2 hh.1 _ _, h.q.put2 hh.2.1 _ _⟩
theorem far_yes {ls : List St.Pt} {i j : Nat} {s : Int × Nat × Nat} (h : s.1 < St.far (St.at_ ls i) (St.at_ ls j)) : St.farS ls i j s = (St.far (St.at_ ls i) (St.at_ ls j), i, j) := by unfold St.farS; rw [if_pos h]
theorem far_no {ls : List St.Pt} {i j : Nat} {s : Int × Nat × Nat} (h : ¬ s.1 < St.far (St.at_ ls i) (St.at_ ls j)) : St.farS ls i j s = s := by unfold St.farS; rw [if_neg h]
end Go.Proofs.Wk
/- STRAIGHTNESS: the farthest points in the reference; Ends. -/
namespace Go.Proofs.Wk
open Go.RowKit Mt

structure FqI (w W : World) (g b o1 o2 i j : Nat) (p q : St.Pt) : Prop where
  s : LsG w W g i j
  p : PtAt W b o1 p
  q : PtAt W b o2 q
theorem FqI.later {w W W' : World} {g b o1 o2 i j : Nat} {p q : St.Pt} (h : FqI w W g b o1 o2 i j p q) (hb : Below W.heap.size W W') : FqI w W' g b o1 o2 i j p q := ⟨h.s.later hb, h.p.later hb, h.q.later hb⟩
theorem FqI.drew {w W : World} {g b o1 o2 i j : Nat} {p q : St.Pt} (h : FqI w W g b o1 o2 i j p q) : FqI w W.drew g b o1 o2 i j p q := ⟨h.s.drew, h.p.drew, h.q.drew⟩
theorem FqI.t {w W : World} {g b o1 o2 i j : Nat} {px py qx qy : Int} (h : FqI w W g b o1 o2 i j ⟨px, py⟩ ⟨qx, qy⟩) :
    W.cell? ⟨b, o1, none⟩ = some (.int .i64 px) ∧ W.cell? ⟨b, o1 + 1, none⟩ = some (.int .i64 py) ∧ W.cell? ⟨b, o2, none⟩ = some (.int .i64 qx) ∧ W.cell? ⟨b, o2 + 1, none⟩ = some (.int .i64 qy) ∧ FqI w W g b o1 o2 i j ⟨px, py⟩ ⟨qx, qy⟩ :=
  ⟨h.p.c0, h.p.c1, h.q.c0, h.q.c1, h⟩
/-- What Ends returns. -/
def endE (ls : List St.Pt) : Txt × Int :=
  if St.givP ls = 0 then (if St.same ls = true then ([], 10) else (rtoa (St.wq (St.acr ls (St.at_ ls (St.farL ls).2.1) (St.at_ ls (St.farL ls).2.2)) (St.at_ ls (St.farL ls).2.1) (St.at_ ls (St.farL ls).2.2)), 0)) else ([], St.givP ls)
theorem same_two {ls : List St.Pt} (h0 : 0 < ls.length) (h : St.same ls = false) : 2 ≤ ls.length := by
  obtain ⟨h1, h2, -⟩ := St.farL_pair h
  omega
/-- What Ends reads. -/
structure EnR (w W : World) (gp b o1 o2 i j : Nat) (p q : St.Pt) : Prop where
  o : W.heap[gp]? = some (.cells #[.int .i64 (i : Int), .int .i64 (j : Int)] 44 (0, 0))
  p : PtAt W b o1 p
  q : PtAt W b o2 q
  w : Below w.heap.size w W
theorem EnR.later {w W W' : World} {gp b o1 o2 i j : Nat} {p q : St.Pt} (h : EnR w W gp b o1 o2 i j p q) (hb : Below W.heap.size W W') : EnR w W' gp b o1 o2 i j p q :=
  ⟨by rw [hb.block _ (Array.getElem?_eq_some_iff.1 h.o).1]; exact h.o, h.p.later hb, h.q.later hb, h.w.nx hb⟩
theorem EnR.drew {w W : World} {gp b o1 o2 i j : Nat} {p q : St.Pt} (h : EnR w W gp b o1 o2 i j p q) : EnR w W.drew gp b o1 o2 i j p q := ⟨h.o, h.p.drew, h.q.drew, h.w.drew⟩
theorem EnR.t {w W : World} {gp b o1 o2 i j : Nat} {px py qx qy : Int} (h : EnR w W gp b o1 o2 i j ⟨px, py⟩ ⟨qx, qy⟩) :
    W.cell? ⟨gp, 0, none⟩ = some (.int .i64 (i : Int)) ∧ W.cell? ⟨gp, 1, none⟩ = some (.int .i64 (j : Int)) ∧ W.cell? ⟨b, o1, none⟩ = some (.int .i64 px) ∧ W.cell? ⟨b, o1 + 1, none⟩ = some (.int .i64 py) ∧ W.cell? ⟨b, o2, none⟩ = some (.int .i64 qx) ∧ W.cell? ⟨b, o2 + 1, none⟩ = some (.int .i64 qy) ∧
      EnR w W gp b o1 o2 i j ⟨px, py⟩ ⟨qx, qy⟩ :=
  ⟨(c2row h.o).1, (c2row h.o).2, h.p.c0, h.p.c1, h.q.c0, h.q.c1, h⟩
end Go.Proofs.Wk
/- STRAIGHTNESS: Ends and Across, in the program and in the reference. -/
namespace Go.Proofs.Wk
open Go.RowKit Mt

theorem endE_same {ls : List St.Pt} (h : St.givP ls = 0) (h2 : St.same ls = true) : endE ls = ([], 10) := by unfold endE; rw [if_pos h, if_pos h2]
theorem endE_ok {ls : List St.Pt} (h : St.givP ls = 0) (h2 : St.same ls = false) : endE ls = (rtoa (St.wq (St.acr ls (St.at_ ls (St.farL ls).2.1) (St.at_ ls (St.farL ls).2.2)) (St.at_ ls (St.farL ls).2.1) (St.at_ ls (St.farL ls).2.2)), 0) := by
  unfold endE; rw [if_pos h, if_neg (by rw [h2]; simp)]
theorem endE_bad {ls : List St.Pt} (h : ¬ St.givP ls = 0) : endE ls = ([], St.givP ls) := by unfold endE; rw [if_neg h]
/-- What Across returns. -/
def acrE (ls : List St.Pt) (a b : St.Pt) : Txt × Int :=
  if St.givP ls = 0 then (if St.inB a = true ∧ St.inB b = true then (if a = b then ([], 10) else (rtoa (St.wq (St.acr ls a b) a b), 0)) else ([], 2)) else ([], St.givP ls)
theorem chk_two (a b : St.Pt) : St.chkP [a, b] = if St.inB a = true ∧ St.inB b = true then 0 else 2 := by
  unfold St.chkP
  simp only [List.length_cons, List.length_nil, List.all_cons, List.all_nil, Bool.and_true, Bool.and_eq_true]
  rfl
end Go.Proofs.Wk
/- STRAIGHTNESS: Across and Within, in the program and in the reference. -/
namespace Go.Proofs.Wk
open Go.RowKit Mt

theorem acrE_bad {ls : List St.Pt} {a b : St.Pt} (h : ¬ St.givP ls = 0) : acrE ls a b = ([], St.givP ls) := by unfold acrE; rw [if_neg h]
theorem acrE_out {ls : List St.Pt} {a b : St.Pt} (h : St.givP ls = 0) (h2 : ¬ (St.inB a = true ∧ St.inB b = true)) : acrE ls a b = ([], 2) := by unfold acrE; rw [if_pos h, if_neg h2]
theorem acrE_zero {ls : List St.Pt} {a : St.Pt} (h : St.givP ls = 0) (h2 : St.inB a = true) : acrE ls a a = ([], 10) := by unfold acrE; rw [if_pos h, if_pos ⟨h2, h2⟩, if_pos rfl]
theorem acrE_ok {ls : List St.Pt} {a b : St.Pt} (h : St.givP ls = 0) (h2 : St.inB a = true) (h3 : St.inB b = true) (h4 : a ≠ b) : acrE ls a b = (rtoa (St.wq (St.acr ls a b) a b), 0) := by unfold acrE; rw [if_pos h, if_pos ⟨h2, h3⟩, if_neg h4]
theorem sl2 (W : World) (a c : St.Pt) (t : TypeId) : SlX (W.alloc (.cells #[.int .i64 a.x, .int .i64 a.y, .int .i64 c.x, .int .i64 c.y] t)) (.slice (some ⟨W.heap.size, 0, none⟩) 2 2) [a, c] :=
  .inr ⟨W.heap.size, 0, 2, rfl, RX.lit W [a, c] t, by simp⟩
end Go.Proofs.Wk
/- STRAIGHTNESS: the width and a tolerance. -/
namespace Go.Proofs.Wk
open Go.RowKit Mt

theorem bsQ_wid (ls : List St.Pt) : bsQ ls (St.least ls) = St.wid ls := by unfold St.wid; cases St.least ls <;> rfl
def tolE (t : Int) : Int := if 0 ≤ t ∧ t ≤ 100000 then 0 else 2
theorem wid_sz {ls : List St.Pt} (hin : ∀ p ∈ ls, St.InP p) : szQ (St.wid ls) 24 := by
  cases q : St.least ls with
  | none => unfold St.wid; rw [q]; exact szQ_zero.mono (by decide)
  | some x =>
    obtain ⟨h1, h2, h3, h4, h5, h6, h7⟩ := St.least_pair q
    have hx : St.wid ls = St.wv ls x := by unfold St.wid; rw [q]
    rw [hx, h5]
    exact prf_sz hin (by omega) h2 h4
theorem sq_bd {t : Int} (h : 0 ≤ t ∧ t ≤ 100000) : 0 ≤ t * t ∧ t * t ≤ 10000000000 := by
  have := St.mul_bd (x := t) (y := t) (k := 100000) (m := 100000) (by omega) (by omega)
  have h2 := St.sq_nonneg t
  omega
theorem sq_sz {t : Int} (h : 0 ≤ t ∧ t ≤ 100000) : szQ ((t * t : Int) : Rat) 24 := szQ_int (by decide) (by
  have := sq_bd h
  have e : (10000000000 : Nat) < 10 ^ 24 := by decide
  omega)
theorem keeps_not (ls : List St.Pt) (t : Int) : (!decide (((t * t : Int) : Rat) < St.wid ls)) = St.keeps ls t := by
  unfold St.keeps
  rw [Bool.eq_iff_iff, Bool.not_eq_true', decide_eq_false_iff_not, decide_eq_true_eq, Rat.not_lt]
/-- What Within returns. -/
def withE (ls : List St.Pt) (t : Int) : Bool × Int := if St.givP ls = 0 then (if 0 ≤ t ∧ t ≤ 100000 then (St.keeps ls t, 0) else (false, 2)) else (false, St.givP ls)
abbrev bint (r : Bool × Int) : Value := .tuple #[.bool r.1, .int .i64 r.2]
theorem withE_bad {ls : List St.Pt} {t : Int} (h : ¬ St.givP ls = 0) : withE ls t = (false, St.givP ls) := by unfold withE; rw [if_neg h]
theorem withE_out {ls : List St.Pt} {t : Int} (h : St.givP ls = 0) (h2 : ¬ (0 ≤ t ∧ t ≤ 100000)) : withE ls t = (false, 2) := by unfold withE; rw [if_pos h, if_neg h2]
theorem withE_ok {ls : List St.Pt} {t : Int} (h : St.givP ls = 0) (h2 : 0 ≤ t ∧ t ≤ 100000) : withE ls t = (St.keeps ls t, 0) := by unfold withE; rw [if_pos h, if_pos h2]
end Go.Proofs.Wk
/- STRAIGHTNESS: points chosen by their indices; lists of ints that are equal. -/
namespace Go.Proofs.Wk
open Go.RowKit Mt

abbrev ptZ : Value := .agg #[.int .i64 0, .int .i64 0]
theorem new_pt (W : World) (p : St.Pt) (t : TypeId) : ∀ j, j < Row.k St.Pt → (W.alloc (.cells #[.int .i64 p.x, .int .i64 p.y] t)).cell? ⟨W.heap.size, j, none⟩ = (Row.enc p)[j]? := fun j hj => by
  rw [cell_of_row _ _ _ _ _ _ (heap_alloc_new W _)]
  match j, hj with
  | 0, _ => rfl
  | 1, _ => rfl
theorem new_nat (W : World) (n : Nat) (t : TypeId) : ∀ j, j < Row.k Nat → (W.alloc (.cells #[.int .i64 (n : Int)] t)).cell? ⟨W.heap.size, j, none⟩ = (Row.enc n)[j]? := fun j hj => by
  rw [cell_of_row _ _ _ _ _ _ (heap_alloc_new W _)]
  match j, hj with
  | 0, _ => rfl
theorem chosen_step {ls : List St.Pt} {xs : List Nat} {i : Nat} (hi : i < xs.length) : St.chosen ls (xs.take (i + 1)) = St.chosen ls (xs.take i) ++ [St.at_ ls xs[i]] := by
  unfold St.chosen
  rw [List.take_succ_eq_append_getElem hi, List.map_append]; rfl
/-- A slice of points that a call has made. -/
def NewP (w : World) (ms : List St.Pt) (e : Ending) (w' : World) : Prop := ∃ v, e = .returned v ∧ SlX w' v ms ∧ Below w.heap.size w w'
end Go.Proofs.Wk
/- STRAIGHTNESS: lists of ints that are equal. -/
namespace Go.Proofs.Wk
open Go.RowKit Mt

def nA (xs : List Nat) (i : Nat) : Nat := xs.getD i 0
theorem nA_get {xs : List Nat} {i : Nat} (h : i < xs.length) : nA xs i = xs[i] := by unfold nA; rw [List.getD_eq_getElem?_getD, List.getElem?_eq_getElem h]; rfl
theorem RX.nA {w : World} {b off : Nat} {ls : List Nat} (h : RX w b off ls) {i : Nat} (hi : i < ls.length) : w.cell? ⟨b, off + i, none⟩ = some (.int .i64 (nA ls i : Int)) := by rw [nA_get hi]; exact h.nat hi
theorem eq_of_nA {xs ys : List Nat} (hl : xs.length = ys.length) (h : ∀ k, k < xs.length → nA xs k = nA ys k) : xs = ys :=
  List.ext_getElem hl fun i h1 h2 => by rw [← nA_get h1, ← nA_get h2]; exact h i h1
theorem SlX.lenN {w : World} {v : Value} {ls : List Nat} (S : SlX w v ls) : ∃ a cap, v = .slice a ls.length cap := by
  rcases S with ⟨a, cap, rfl, rfl⟩ | ⟨b, off, cap, rfl, -, -⟩
  · exact ⟨a, cap, rfl⟩
  · exact ⟨_, cap, rfl⟩
end Go.Proofs.Wk
