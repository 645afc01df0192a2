/- LINEAR PROGRAMS, plain: tables, pivots, columns, rows that leave; and the example of three points on a line. -/
import Derived.Test.YtcdjhgkeehhaaaaGreatDoorRqI
import Derived.Test.YtcdjhgkeehhaaaaGreatDoorHI
import Derived.Test.YtcdjhgkeehhaaaaGreatDoorKB
import Derived.Deep.RegionHeld3
import Derived.Deep.QuietTactic
import Derived.BigQuiet
import Derived.OrdersHeld
import Derived.StillTail
namespace Lp
def at_ (l : List Rat) (k : Nat) : Rat := l.getD k 0
structure Tab where
  rows : List (List Rat)
  basis : List Nat
  goal : List Rat
def Tab.row (t : Tab) (i : Nat) : List Rat := t.rows.getD i []
def Tab.bas (t : Tab) (i : Nat) : Nat := t.basis.getD i 0
/-- A row without a multiple of another one. -/
def dropR (ys : List Rat) (x : Rat) (xs : List Rat) : List Rat := xs.mapIdx fun k a => a - x * at_ ys k
def divR (b : Rat) (xs : List Rat) : List Rat := xs.map (· / b)
def pivR (t : Tab) (r c : Nat) : List Rat := divR (at_ (t.row r) c) (t.row r)
def pivI (ys : List Rat) (r c i : Nat) (xs : List Rat) : List Rat := if i = r then ys else dropR ys (at_ xs c) xs
def pivot (t : Tab) (r c : Nat) : Tab where
  rows := t.rows.mapIdx (pivI (pivR t r c) r c)
  basis := t.basis.set r c
  goal := dropR (pivR t r c) (at_ t.goal c) t.goal
/-- The first column behind k that makes the goal greater. -/
def colF (g : List Rat) (ban : Int) : Nat → Nat → Option Nat
  | 0, _ => none
  | n + 1, k => if (k : Int) ≠ ban ∧ 0 < at_ g k then some k else colF g ban n (k + 1)
def leavS (t : Tab) (c : Nat) : Nat → Int × Rat
  | 0 => (-1, 0)
  | i + 1 =>
    if at_ (t.row i) c ≤ 0 then leavS t c i
    else if (leavS t c i).1 < 0 ∨ at_ (t.row i) 15 / at_ (t.row i) c < (leavS t c i).2 ∨ at_ (t.row i) 15 / at_ (t.row i) c = (leavS t c i).2 ∧ t.bas i < t.bas (leavS t c i).1.toNat then ((i : Int), at_ (t.row i) 15 / at_ (t.row i) c)
    else leavS t c i
def stepT (ban : Int) (t : Tab) : Tab :=
  match colF t.goal ban 15 0 with
  | none => t
  | some c => pivot t (leavS t c 6).1.toNat c
def itT (ban : Int) (t : Tab) : Nat → Tab
  | 0 => t
  | n + 1 => stepT ban (itT ban t n)
/-- Small numbers. -/
def sm (q : Rat) : Bool := decide (q.num.natAbs ≤ 1000) && decide (q.den ≤ 1000)
def smL (l : List Rat) : Bool := l.length == 16 && l.all sm
def smT (t : Tab) : Bool := t.rows.length == 6 && t.rows.all smL && smL t.goal && t.basis.length == 6 && t.basis.all (fun c => decide (c < 15))
def smP (t : Tab) (r c : Nat) : Bool := smT t && decide (r < 6) && decide (c < 15) && decide (at_ (t.row r) c ≠ 0) && smL (pivR t r c)
def okS (ban : Int) (t : Tab) : Bool :=
  match colF t.goal ban 15 0 with
  | none => false
  | some c => decide (0 ≤ (leavS t c 6).1) && smP t (leavS t c 6).1.toNat c
/-- n steps, then none. -/
def okN (ban : Int) (t : Tab) (n : Nat) : Bool := (List.range n).all (fun j => okS ban (itT ban t j)) && (colF (itT ban t n).goal ban 15 0).isNone && smT (itT ban t n)
/-- The table of bounds. -/
def layR (i : Nat) (b : List Rat × Rat) : List Rat := (b.1 ++ b.1.map (- ·) ++ (List.replicate 6 0).set i 1) ++ [-1, b.2]
def laid (l : List (List Rat × Rat)) : Tab where
  rows := l.mapIdx layR
  basis := (List.range 6).map (8 + ·)
  goal := List.replicate 16 0
def worstS (t : Tab) : Nat → Int
  | 0 => -1
  | i + 1 => if 0 ≤ at_ (t.row i) 15 then worstS t i else if 0 ≤ worstS t i ∧ at_ (t.row (worstS t i).toNat) 15 ≤ at_ (t.row i) 15 then worstS t i else (i : Int)
def aimG (goal : List Rat) : List Rat := goal ++ goal.map (- ·) ++ List.replicate 8 0
def aimS (t : Tab) (g : List Rat) : Nat → List Rat
  | 0 => g
  | i + 1 => dropR (t.row i) (at_ (aimS t g i) (t.bas i)) (aimS t g i)
def aim (t : Tab) (goal : List Rat) : Tab := { t with goal := aimS t (aimG goal) 6 }
def allS (t : Tab) : Nat → List Rat
  | 0 => List.replicate 15 0
  | i + 1 => (allS t i).set (t.bas i) (at_ (t.row i) 15)
def point (t : Tab) : List Rat := (List.range 4).map fun k => at_ (allS t 6) k - at_ (allS t 6) (4 + k)
def weights (t : Tab) : List Rat := (List.range 6).map fun i => - at_ t.goal (8 + i)
/- the example -/
def exB : List (List Rat × Rat) := [([0, 0, 0, -1], 0), ([0, 0, 1, 0], 0), ([-4, 0, 0, -1], -4), ([4, 0, 1, 0], 4), ([-2, 0, 0, -1], -1), ([2, 0, 1, 0], 1)]
def t0 : Tab := { laid exB with goal := (List.replicate 16 0).set 14 (-1) }
def t1 : Tab := pivot t0 2 14
def t2 : Tab := itT (-1) t1 3
def t4 : Tab := aim t2 [0, 0, 1, -1]
def t5 : Tab := itT 14 t4 2
theorem worst_ex : worstS (laid exB) 6 = 2 := by decide +kernel
theorem sm0 : smT (laid exB) = true ∧ smP t0 2 14 = true := by decide +kernel
theorem ok1 : okN (-1) t1 3 = true := by decide +kernel
theorem t2_ex : at_ t2.goal 15 = 0 ∧ t2.basis = [8, 3, 6, 11, 12, 0] := by decide +kernel
theorem ok3 : smT t2 = true ∧ (List.range 7).all (fun i => smL (aimS t2 (aimG [0, 0, 1, -1]) i)) = true := by decide +kernel
theorem ok4 : okN 14 t4 2 = true := by decide +kernel
theorem pt_ex : point t5 = [1, 0, -1, 0] := by decide +kernel
theorem wt_ex : weights t5 = [1/2, 0, 1/2, 0, 0, 1] := by decide +kernel
theorem all5 : smL (allS t5 6 ++ [0]) = true := by decide +kernel
end Lp
/- LINEAR PROGRAMS, plain: what the loops leave behind, cell by cell. -/
namespace Lp
theorem at_get {l : List Rat} {k : Nat} (h : k < l.length) : at_ l k = l[k] := by
  unfold at_; rw [List.getD_eq_getElem?_getD, List.getElem?_eq_getElem h]; rfl
theorem ext_at {l m : List Rat} (h : l.length = m.length) (hk : ∀ k, k < l.length → at_ l k = at_ m k) : l = m :=
  List.ext_getElem h fun k h1 h2 => by have := hk k h1; rwa [at_get h1, at_get h2] at this
theorem at_set {l : List Rat} {k j : Nat} {q : Rat} (hj : j < l.length) : at_ (l.set k q) j = if j = k then q else at_ l j := by
  rw [at_get (by simpa using hj), List.getElem_set, at_get hj]
  by_cases e : k = j
  · rw [if_pos e, if_pos e.symm]
  · rw [if_neg e, if_neg (fun h => e h.symm)]
theorem at_mapIdx {l : List Rat} {f : Nat → Rat → Rat} {k : Nat} (h : k < l.length) : at_ (l.mapIdx f) k = f k (at_ l k) := by
  rw [at_get (by simpa using h), List.getElem_mapIdx, at_get h]
theorem at_map {l : List Rat} {f : Rat → Rat} {k : Nat} (h : k < l.length) : at_ (l.map f) k = f (at_ l k) := by
  rw [at_get (by simpa using h), List.getElem_map, at_get h]
theorem dropR_len (ys : List Rat) (x : Rat) (xs : List Rat) : (dropR ys x xs).length = xs.length := by simp [dropR]
theorem divR_len (b : Rat) (xs : List Rat) : (divR b xs).length = xs.length := by simp [divR]
/-- The first k numbers of a row are done. -/
def dropS (ys : List Rat) (x : Rat) (xs : List Rat) (k : Nat) : List Rat := xs.mapIdx fun j a => if j < k then a - x * at_ ys j else a
def divS (b : Rat) (xs : List Rat) (k : Nat) : List Rat := xs.mapIdx fun j a => if j < k then a / b else a
theorem dropS_len (ys : List Rat) (x : Rat) (xs : List Rat) (k : Nat) : (dropS ys x xs k).length = xs.length := by simp [dropS]
theorem divS_len (b : Rat) (xs : List Rat) (k : Nat) : (divS b xs k).length = xs.length := by simp [divS]
theorem dropS_zero (ys : List Rat) (x : Rat) (xs : List Rat) : dropS ys x xs 0 = xs := by
  refine ext_at (dropS_len ..) fun k hk => ?_
  rw [dropS_len] at hk
  rw [dropS, at_mapIdx hk, if_neg (by omega)]
theorem divS_zero (b : Rat) (xs : List Rat) : divS b xs 0 = xs := by
  refine ext_at (divS_len ..) fun k hk => ?_
  rw [divS_len] at hk
  rw [divS, at_mapIdx hk, if_neg (by omega)]
theorem dropS_all {ys : List Rat} {x : Rat} {xs : List Rat} {n : Nat} (h : xs.length ≤ n) : dropS ys x xs n = dropR ys x xs := by
  refine ext_at (by rw [dropS_len, dropR_len]) fun k hk => ?_
  rw [dropS_len] at hk
  rw [dropS, dropR, at_mapIdx hk, at_mapIdx hk, if_pos (by omega)]
theorem divS_all {b : Rat} {xs : List Rat} {n : Nat} (h : xs.length ≤ n) : divS b xs n = divR b xs := by
  refine ext_at (by rw [divS_len, divR_len]) fun k hk => ?_
  rw [divS_len] at hk
  rw [divS, divR, at_mapIdx hk, at_map hk, if_pos (by omega)]
theorem dropS_at {ys : List Rat} {x : Rat} {xs : List Rat} {k : Nat} (h : k < xs.length) : at_ (dropS ys x xs k) k = at_ xs k := by
  rw [dropS, at_mapIdx h, if_neg (by omega)]
theorem divS_at {b : Rat} {xs : List Rat} {k : Nat} (h : k < xs.length) : at_ (divS b xs k) k = at_ xs k := by
  rw [divS, at_mapIdx h, if_neg (by omega)]
theorem dropS_step {ys : List Rat} {x : Rat} {xs : List Rat} {k : Nat} : (dropS ys x xs k).set k (at_ xs k - x * at_ ys k) = dropS ys x xs (k + 1) := by
  refine ext_at (by rw [List.length_set, dropS_len, dropS_len]) fun j hj => ?_
  rw [List.length_set, dropS_len] at hj
  rw [at_set (by rw [dropS_len]; exact hj), dropS, dropS, at_mapIdx hj, at_mapIdx hj]
  by_cases e : j = k
  · rw [if_pos e, if_pos (by omega), e]
  · rw [if_neg e]
    by_cases g : j < k
    · rw [if_pos g, if_pos (by omega)]
    · rw [if_neg g, if_neg (by omega)]
theorem divS_step {b : Rat} {xs : List Rat} {k : Nat} : (divS b xs k).set k (at_ xs k / b) = divS b xs (k + 1) := by
  refine ext_at (by rw [List.length_set, divS_len, divS_len]) fun j hj => ?_
  rw [List.length_set, divS_len] at hj
  rw [at_set (by rw [divS_len]; exact hj), divS, divS, at_mapIdx hj, at_mapIdx hj]
  by_cases e : j = k
  · rw [if_pos e, if_pos (by omega), e]
  · rw [if_neg e]
    by_cases g : j < k
    · rw [if_pos g, if_pos (by omega)]
    · rw [if_neg g, if_neg (by omega)]
/-- Nothing is done where the factor is 0. -/
theorem dropR_zero {ys xs : List Rat} : dropR ys 0 xs = xs := by
  refine ext_at (dropR_len ..) fun k hk => ?_
  rw [dropR_len] at hk
  rw [dropR, at_mapIdx hk, Rat.zero_mul]
  exact (Rat.sub_eq_add_neg _ _).trans (by rw [Rat.neg_zero, Rat.add_zero])
theorem set_self {l : List Rat} {k : Nat} (h : k < l.length) : l.set k (at_ l k) = l := by
  rw [at_get h]; exact List.set_getElem_self h
/- small numbers -/
theorem sm_bd {q : Rat} (h : sm q = true) : q.num.natAbs ≤ 1000 ∧ q.den ≤ 1000 := by
  unfold sm at h
  rw [Bool.and_eq_true, decide_eq_true_eq, decide_eq_true_eq] at h
  exact h
theorem smL_len {l : List Rat} (h : smL l = true) : l.length = 16 := by
  unfold smL at h
  rw [Bool.and_eq_true] at h
  exact beq_iff_eq.1 h.1
theorem smL_at {l : List Rat} (h : smL l = true) {k : Nat} (hk : k < 16) : sm (at_ l k) = true := by
  have hl := smL_len h
  unfold smL at h
  rw [Bool.and_eq_true] at h
  rw [at_get (by omega)]
  exact List.all_eq_true.1 h.2 _ (List.getElem_mem _)
theorem row_get {t : Tab} {i : Nat} (h : i < t.rows.length) : t.row i = t.rows[i] := by
  unfold Tab.row; rw [List.getD_eq_getElem?_getD, List.getElem?_eq_getElem h]; rfl
theorem bas_get {t : Tab} {i : Nat} (h : i < t.basis.length) : t.bas i = t.basis[i] := by
  unfold Tab.bas; rw [List.getD_eq_getElem?_getD, List.getElem?_eq_getElem h]; rfl
structure SmT (t : Tab) : Prop where
  rl : t.rows.length = 6
  row : ∀ i, i < 6 → smL (t.row i) = true
  goal : smL t.goal = true
  bl : t.basis.length = 6
  bas : ∀ i, i < 6 → t.bas i < 15
theorem smT_is {t : Tab} (h : smT t = true) : SmT t := by
  unfold smT at h
  simp only [Bool.and_eq_true, beq_iff_eq] at h
  obtain ⟨⟨⟨⟨h1, h2⟩, h3⟩, h4⟩, h5⟩ := h
  refine ⟨h1, fun i hi => ?_, h3, h4, fun i hi => ?_⟩
  · rw [row_get (by omega)]; exact List.all_eq_true.1 h2 _ (List.getElem_mem _)
  · rw [bas_get (by omega)]; exact of_decide_eq_true (List.all_eq_true.1 h5 _ (List.getElem_mem _))
structure SmP (t : Tab) (r c : Nat) : Prop where
  tab : SmT t
  hr : r < 6
  hc : c < 15
  ne : at_ (t.row r) c ≠ 0
  piv : smL (pivR t r c) = true
theorem smP_is {t : Tab} {r c : Nat} (h : smP t r c = true) : SmP t r c := by
  unfold smP at h
  simp only [Bool.and_eq_true, decide_eq_true_eq] at h
  obtain ⟨⟨⟨⟨h1, h2⟩, h3⟩, h4⟩, h5⟩ := h
  exact ⟨smT_is h1, h2, h3, h4, h5⟩
theorem pivot_row {t : Tab} {r c i : Nat} (h : i < t.rows.length) : (pivot t r c).row i = pivI (pivR t r c) r c i (t.row i) := by
  rw [row_get (by simpa [pivot] using h), row_get h]
  simp [pivot]
theorem pivot_bas {t : Tab} {r c i : Nat} (h : i < t.basis.length) : (pivot t r c).bas i = if i = r then c else t.bas i := by
  rw [bas_get (by simpa [pivot] using h), bas_get h]
  simp only [pivot, List.getElem_set]
  by_cases e : r = i
  · rw [if_pos e, if_pos e.symm]
  · rw [if_neg e, if_neg (fun h => e h.symm)]
/- columns -/
theorem colF_end {g : List Rat} {ban : Int} {k : Nat} : colF g ban 0 k = none := rfl
theorem colF_yes {g : List Rat} {ban : Int} {n k : Nat} (h1 : (k : Int) ≠ ban) (h2 : 0 < at_ g k) : colF g ban (n + 1) k = some k := by
  rw [colF, if_pos ⟨h1, h2⟩]
theorem colF_no {g : List Rat} {ban : Int} {n k : Nat} (h : ¬ ((k : Int) ≠ ban ∧ 0 < at_ g k)) : colF g ban (n + 1) k = colF g ban n (k + 1) := by
  rw [colF, if_neg h]
theorem colF_bd {g : List Rat} {ban : Int} : ∀ {n k c : Nat}, colF g ban n k = some c → k ≤ c ∧ c < k + n
  | 0, k, c, h => by cases h
  | n + 1, k, c, h => by
    by_cases e : (k : Int) ≠ ban ∧ 0 < at_ g k
    · rw [colF, if_pos e] at h
      have := Option.some.inj h
      omega
    · rw [colF_no e] at h
      have := colF_bd h
      omega
end Lp
/- LINEAR PROGRAMS: small numbers; sums that keep an error. -/
namespace Go.Proofs.Wk
open Go.RowKit Mt

def rtF (q : Rat) : Value := .string ⟨(rtoa q).toArray⟩
theorem sm_sz {q : Rat} (h : Lp.sm q = true) : szQ q 4 := by
  obtain ⟨h1, h2⟩ := Lp.sm_bd h
  exact ⟨(lng_le _ (by omega)).2 (by omega), (lng_le _ (by omega)).2 (by simp; omega)⟩
theorem lsub_c {p q : Rat} {j k : Nat} (hp : szQ p j) (hq : szQ q k) (hk : j + k < 1024) (w : World) (hg : Good w) : Calls Tryz.prog 23 #[Value.string ⟨(rtoa p).toArray⟩, Value.string ⟨(rtoa q).toArray⟩] w (Ret w (ans2 (rtoa (p - q), 0))) := by
  have h1 := hp.ok (by omega); have h2 := hq.ok (by omega)
  have := qSub_c (rtoa p) (rtoa q) w hg (tlen h1) (tlen h2)
  rwa [rbin_ok _ _ h1 h2, subQ_sz hp hq hk] at this
theorem ladd_c {p q : Rat} {j k : Nat} (hp : szQ p j) (hq : szQ q k) (hk : j + k < 1024) (w : World) (hg : Good w) : Calls Tryz.prog 112 #[Value.string ⟨(rtoa p).toArray⟩, Value.string ⟨(rtoa q).toArray⟩] w (Ret w (ans2 (rtoa (p + q), 0))) := by
  have h1 := hp.ok (by omega); have h2 := hq.ok (by omega)
  have := qAdd_c (rtoa p) (rtoa q) w hg (tlen h1) (tlen h2)
  rwa [rbin_ok _ _ h1 h2, addQ_sz hp hq hk] at this
theorem lmul_c {p q : Rat} {j k : Nat} (hp : szQ p j) (hq : szQ q k) (hk : j + k ≤ 1024) (w : World) (hg : Good w) : Calls Tryz.prog 90 #[Value.string ⟨(rtoa p).toArray⟩, Value.string ⟨(rtoa q).toArray⟩] w (Ret w (ans2 (rtoa (p * q), 0))) := by
  have h1 := hp.ok (by omega); have h2 := hq.ok (by omega)
  have := qMul_c (rtoa p) (rtoa q) w hg (tlen h1) (tlen h2)
  rwa [rbin_ok _ _ h1 h2, mulQ_sz hp hq hk] at this
theorem ldiv_c {p q : Rat} {j k : Nat} (hp : szQ p j) (hq : szQ q k) (hk : j + k ≤ 1024) (h : q ≠ 0) (w : World) (hg : Good w) : Calls Tryz.prog 146 #[Value.string ⟨(rtoa p).toArray⟩, Value.string ⟨(rtoa q).toArray⟩] w (Ret w (ans2 (rtoa (p / q), 0))) := by
  have h1 := hp.ok (by omega); have h2 := hq.ok (by omega)
  have := qDiv_c (rtoa p) (rtoa q) w hg (tlen h1) (tlen h2)
  rwa [rbin_ok _ _ h1 h2, divQ_sz hp hq hk h] at this
theorem lcmp_c {p q : Rat} {j k : Nat} (hp : szQ p j) (hq : szQ q k) (hk : j + k ≤ 1024) (w : World) (hg : Good w) : Calls Tryz.prog 8 #[Value.string ⟨(rtoa p).toArray⟩, Value.string ⟨(rtoa q).toArray⟩] w (Ret w (int2 (cmpQ p q, 0))) := by
  have h1 := hp.ok (by omega); have h2 := hq.ok (by omega)
  have := qCompare_c (rtoa p) (rtoa q) w hg (tlen h1) (tlen h2)
  rwa [rbin_ok _ _ h1 h2, cmpE_sz hp hq hk] at this
theorem lneg_c {p : Rat} {j : Nat} (hp : szQ p j) (hk : j ≤ 1024) (w : World) (hg : Good w) : Calls Tryz.prog 105 #[Value.string ⟨(rtoa p).toArray⟩] w (Ret w (ans2 (rtoa (-p), 0))) := by
  have h1 := hp.ok hk
  have := qNeg_c (rtoa p) w hg (tlen h1)
  rwa [run1_ok _ _ h1] at this
theorem lsgn_c {p : Rat} {j : Nat} (hp : szQ p j) (hk : j ≤ 1024) (w : World) (hg : Good w) : Calls Tryz.prog 145 #[Value.string ⟨(rtoa p).toArray⟩] w (Ret w (int2 (sgnQ p, 0))) := by
  have h1 := hp.ok hk
  have := qSign_c (rtoa p) w hg (tlen h1)
  rwa [run1_ok _ _ h1] at this
theorem zer_is {q : Rat} : (rtoa q == [48]) = decide (q = 0) := by
  by_cases h : q = 0
  · rw [h, rtoa_zero]; rfl
  · rw [decide_eq_false h, beq_eq_false_iff_ne]
    intro e
    rw [← rtoa_zero] at e
    exact h (rtoa_inj e)
theorem bel_same {B : Nat} {w W : World} (h : Below B w W) {g : Nat} {v : Value} {T : TypeId} (hg : W.heap[g]? = some (.cells #[v] T (0, 0))) : Below B w (W.setCell ⟨g, 0, none⟩ v) := by
  have hs : (W.setCell ⟨g, 0, none⟩ v).heap[g]? = some (.cells #[v] T (0, 0)) := heap_setCell_same W g 0 _ _ v hg
  refine ⟨h.os, h.tape, h.output, by rw [show (W.setCell ⟨g, 0, none⟩ v).heap.size = W.heap.size by simp [World.setCell]]; exact h.size, fun k hk => ?_⟩
  by_cases e : k = g
  · subst e
    rw [hs, ← hg]
    exact h.block k hk
  · rw [heap_setCell_other W ⟨g, 0, none⟩ k v e]
    exact h.block k hk
/-- A block stays as it was. -/
theorem keepB {w w' : World} {g : Nat} {o : Obj} (h : w.heap[g]? = some o) (hb : Below w.heap.size w w') : w'.heap[g]? = some o := by
  rw [hb.block g (Array.getElem?_eq_some_iff.1 h).1]; exact h
theorem one_cell {w : World} {g : Nat} {v : Value} {T : TypeId} (h : w.heap[g]? = some (.cells #[v] T (0, 0))) : w.cell? ⟨g, 0, none⟩ = some v := by
  rw [cell_of_row _ _ _ _ _ _ h]; rfl
/-- The sums that stand at no error. -/
def PgS (w : World) (g : Nat) : Prop := w.heap[g]? = some (.cells #[.int .i64 0] 136 (0, 0))
theorem PgS.later {w w' : World} {g : Nat} (h : PgS w g) (hb : Below w.heap.size w w') : PgS w' g := keepB h hb
set_option maxRecDepth 100000 in
set_option maxHeartbeats 2000000 in
theorem pof_c (a : Txt) (g : Nat) (w : World) (h : PgS w g) : Calls Tryz.prog 104 #[.pointer (some ⟨g, 0, none⟩), .string ⟨a.toArray⟩, .int .i64 0] w (Ret w (.string ⟨a.toArray⟩)) := by
  have hw := Lib.hid (bel_same (Below.refl w.heap.size w) h)
  have c0 := one_cell h
  have hf := frozen_of_row w g 0 _ _ h
  clear h
  go_enter Tryz.func104, Tryz.ntmps104
  go_wp2
  go_ret
  exact ⟨rfl, hw.out⟩
set_option maxRecDepth 100000 in
set_option maxHeartbeats 2000000 in
theorem psign_c {q : Rat} {j : Nat} (hq : szQ q j) (hk : j ≤ 1024) (g : Nat) (w : World) (hg : Good w) (h : PgS w g) : Calls Tryz.prog 106 #[.pointer (some ⟨g, 0, none⟩), Value.string ⟨(rtoa q).toArray⟩] w (Ret w (.int .i64 (sgnQ q))) := by
  have H1 := Lib.hid (lsgn_c hq hk w hg)
  have H2 := Lib.hid (fun W (k : Below w.heap.size w W) => pof_c [48] g W (h.later k))
  clear h hg hq
  generalize sgnQ q = s at *
  go_enter Tryz.func106, Tryz.ntmps106
  go_wp2_with fail
  ((with_reducible refine H1.out.mono ?_); rintro e w1 ⟨rfl, hb1⟩)
  go_wp2_with fail
  ((with_reducible refine (H2.out _ hb1).mono ?_); rintro e w2 ⟨rfl, hb2⟩)
  have hb := hb1.trans (hb2.mono hb1.size)
  clear hb1 hb2 H1 H2
  go_wp2
  go_ret
  exact ⟨rfl, hb⟩
set_option maxRecDepth 100000 in
set_option maxHeartbeats 4000000 in
theorem pless_c {a b c : Rat} {j : Nat} (ha : szQ a j) (hb : szQ b j) (hc : szQ c j) (hk : j ≤ 200) (g : Nat) (w : World) (hg : Good w) (h : PgS w g) :
    Calls Tryz.prog 109 #[.pointer (some ⟨g, 0, none⟩), Value.string ⟨(rtoa a).toArray⟩, Value.string ⟨(rtoa b).toArray⟩, Value.string ⟨(rtoa c).toArray⟩] w (Ret w ((Value.string ⟨(rtoa (a - b * c)).toArray⟩))) := by
  have HM := Lib.hid (lmul_c hb hc (by omega) w hg)
  have HS := Lib.hid (fun W (k : Below w.heap.size w W) => lsub_c ha (szQ_mul hb hc) (by omega) W (hg.later k))
  have HO := Lib.hid (fun r W (k : Below w.heap.size w W) => pof_c r g W (h.later k))
  have zb := zer_is (q := b)
  have zc := zer_is (q := c)
  have hB := Below.refl w.heap.size w
  by_cases b0 : b = 0
  · rw [b0, Rat.zero_mul, show a - 0 = a by rw [Rat.sub_eq_add_neg, Rat.neg_zero, Rat.add_zero]]
    have z1 : (rtoa (0 : Rat) == [48]) = true := by rw [rtoa_zero]; rfl
    clear HM HS HO zb zc ha hb hc hg h b0
    generalize rtoa (0 : Rat) = tb at *
    generalize rtoa a = ta at *
    generalize rtoa c = tc at *
    go_enter Tryz.func109, Tryz.ntmps109
    go_wp2
    go_ret
    exact ⟨rfl, hB⟩
  · rw [decide_eq_false b0] at zb
    by_cases c0 : c = 0
    · rw [c0, Rat.mul_zero, show a - 0 = a by rw [Rat.sub_eq_add_neg, Rat.neg_zero, Rat.add_zero]]
      have z1 : (rtoa (0 : Rat) == [48]) = true := by rw [rtoa_zero]; rfl
      clear HM HS HO zc ha hb hc hg h b0 c0
      generalize rtoa (0 : Rat) = tc at *
      generalize rtoa a = ta at *
      generalize rtoa b = tb at *
      go_enter Tryz.func109, Tryz.ntmps109
      go_wp2
      go_ret
      exact ⟨rfl, hB⟩
    · rw [decide_eq_false c0] at zc
      clear ha hb hc hg h b0 c0
      generalize rtoa (a - b * c) = tr at *
      generalize rtoa (b * c) = tm at *
      generalize rtoa a = ta at *
      generalize rtoa b = tb at *
      generalize rtoa c = tc at *
      go_enter Tryz.func109, Tryz.ntmps109
      go_wp2_with fail
      ((with_reducible refine HM.out.mono ?_); rintro e w1 ⟨rfl, hb1⟩)
      go_wp2_with fail
      ((with_reducible refine (HO.out _ _ hb1).mono ?_); rintro e w2 ⟨rfl, hb2⟩)
      have hb3 := hb1.trans (hb2.mono hb1.size)
      clear hb1 hb2 HM
      go_wp2_with fail
      ((with_reducible refine (HS.out _ hb3).mono ?_); rintro e w3 ⟨rfl, hb4⟩)
      have hb5 := hb3.trans (hb4.mono hb3.size)
      clear hb3 hb4 HS
      go_wp2_with fail
      ((with_reducible refine (HO.out _ _ hb5).mono ?_); rintro e w4 ⟨rfl, hb6⟩)
      have hb7 := hb5.trans (hb6.mono hb5.size)
      clear hb5 hb6 HO
      go_wp2
      go_ret
      exact ⟨rfl, hb7⟩
end Go.Proofs.Wk
/- LINEAR PROGRAMS: a table in memory. Blocks 0 to 5 hold the rows, 6 the goal, 7 the basis, 8 the list of the rows, 9 the sums, 10 the table. -/
namespace Go.Proofs.Wk
open Go.RowKit Mt

abbrev rtC (l : List Rat) : Array Value := (l.map rtF).toArray
def tabC (ad : Nat → Nat) (cr cb : Nat) : Array Value := #[.pointer (some ⟨ad 9, 0, none⟩), .int .i64 4, .int .i64 6, .slice (some ⟨ad 8, 0, none⟩) 6 cr, .slice (some ⟨ad 7, 0, none⟩) 6 cb, .slice (some ⟨ad 6, 0, none⟩) 16 16]
theorem _root_.Go.RowKit.Below.nxt {a w w' : World} (h : Below a.heap.size a w) (k : Below w.heap.size w w') : Below a.heap.size a w' := h.trans (k.mono h.size)
theorem _root_.Go.RowKit.Below.drewN {B : Nat} {a w : World} (h : Below B a w) (n : Nat) : Below B a (w.drewN n) := ⟨h.os, h.tape, h.output, h.size, h.block⟩
structure TB (w0 : World) (ad : Nat → Nat) (cr cb : Nat) (W : World) (X : Nat → List Rat) (b : Nat → Nat) : Prop where
  bel : Below w0.heap.size w0 W
  low : ∀ i, i < 11 → w0.heap.size ≤ ad i
  inj : ∀ i j, i < 11 → j < 11 → ad i = ad j → i = j
  row : ∀ i, i < 7 → W.heap[ad i]? = some (.cells (rtC (X i)) 27 (0, 0)) ∧ (X i).length = 16
  bas : ∃ cs, W.heap[ad 7]? = some (.cells cs 3 (0, 0)) ∧ ∀ i, i < 6 → cs[i]? = some (.int .i64 (b i : Int))
  rws : ∃ cs, W.heap[ad 8]? = some (.cells cs 64 (0, 0)) ∧ ∀ i, i < 6 → cs[i]? = some (.slice (some ⟨ad i, 0, none⟩) 16 16)
  sum : PgS W (ad 9)
  tab : W.heap[ad 10]? = some (.cells (tabC ad cr cb) 134 (0, 0))
/-- What is not of the table stays. -/
structure Kp (ad : Nat → Nat) (W W' : World) : Prop where
  size : W.heap.size ≤ W'.heap.size
  block : ∀ k, k < W.heap.size → (∀ i, i < 11 → k ≠ ad i) → W'.heap[k]? = W.heap[k]?
theorem Kp.refl (ad : Nat → Nat) (W : World) : Kp ad W W := ⟨Nat.le_refl _, fun _ _ _ => rfl⟩
theorem Kp.trans {ad : Nat → Nat} {A B C : World} (h : Kp ad A B) (k : Kp ad B C) : Kp ad A C :=
  ⟨Nat.le_trans h.size k.size, fun j hj hn => (k.block j (Nat.lt_of_lt_of_le hj h.size) hn).trans (h.block j hj hn)⟩
theorem Kp.below {ad : Nat → Nat} {W W' : World} (h : Below W.heap.size W W') : Kp ad W W' := ⟨h.size, fun k hk _ => h.block k hk⟩
theorem Kp.drew {ad : Nat → Nat} {W W' : World} (h : Kp ad W W') : Kp ad W W'.drew := ⟨h.size, h.block⟩
theorem Kp.drewN {ad : Nat → Nat} {W W' : World} (h : Kp ad W W') (n : Nat) : Kp ad W (W'.drewN n) := ⟨h.size, h.block⟩
theorem Kp.set {ad : Nat → Nat} (W : World) {i : Nat} (hi : i < 11) (k : Nat) (v : Value) : Kp ad W (W.setCell ⟨ad i, k, none⟩ v) :=
  ⟨by simp [World.setCell], fun j _ hn => heap_setCell_other W ⟨ad i, k, none⟩ j v (hn i hi)⟩
theorem Kp.cell {ad : Nat → Nat} {W W' : World} (h : Kp ad W W') {g k : Nat} {v : Value} (hg : W.cell? ⟨g, k, none⟩ = some v) (hn : ∀ i, i < 11 → g ≠ ad i) : W'.cell? ⟨g, k, none⟩ = some v := by
  have hlt : g < W.heap.size := by
    apply Classical.byContradiction
    intro hc
    rw [show W.cell? ⟨g, k, none⟩ = none by simp [World.cell?, Array.getElem?_eq_none (Nat.le_of_not_lt hc)]] at hg
    cases hg
  rw [World.cell?_of_block (h.block g hlt hn)]; exact hg
theorem Below.setc {B : Nat} {a w : World} (h : Below B a w) {g : Nat} (hg : B ≤ g) (k : Nat) (v : Value) : Below B a (w.setCell ⟨g, k, none⟩ v) :=
  ⟨h.os, h.tape, h.output, by simpa [World.setCell] using h.size, fun j hj => by rw [heap_setCell_other w ⟨g, k, none⟩ j v (show j ≠ g by omega)]; exact h.block j hj⟩
section
variable {w0 W : World} {ad : Nat → Nat} {cr cb : Nat} {X : Nat → List Rat} {b : Nat → Nat}
theorem TB.drew (h : TB w0 ad cr cb W X b) : TB w0 ad cr cb W.drew X b := ⟨h.bel.drew, h.low, h.inj, h.row, h.bas, h.rws, h.sum, h.tab⟩
theorem TB.drewN (h : TB w0 ad cr cb W X b) (n : Nat) : TB w0 ad cr cb (W.drewN n) X b := ⟨⟨h.bel.os, h.bel.tape, h.bel.output, h.bel.size, h.bel.block⟩, h.low, h.inj, h.row, h.bas, h.rws, h.sum, h.tab⟩
theorem TB.later (h : TB w0 ad cr cb W X b) {W' : World} (hb : Below W.heap.size W W') : TB w0 ad cr cb W' X b := by
  obtain ⟨cs, k1, k2⟩ := h.bas
  obtain ⟨ds, k3, k4⟩ := h.rws
  exact ⟨h.bel.trans (hb.mono h.bel.size), h.low, h.inj, fun i hi => ⟨keepB (h.row i hi).1 hb, (h.row i hi).2⟩, ⟨cs, keepB k1 hb, k2⟩, ⟨ds, keepB k3 hb, k4⟩, h.sum.later hb, keepB h.tab hb⟩
theorem TB.congr (h : TB w0 ad cr cb W X b) {X' : Nat → List Rat} {b' : Nat → Nat} (hX : ∀ i, i < 7 → X i = X' i) (hb : ∀ i, i < 6 → b i = b' i) : TB w0 ad cr cb W X' b' := by
  obtain ⟨cs, k1, k2⟩ := h.bas
  exact ⟨h.bel, h.low, h.inj, fun i hi => by rw [← hX i hi]; exact h.row i hi, ⟨cs, k1, fun i hi => by rw [← hb i hi]; exact k2 i hi⟩, h.rws, h.sum, h.tab⟩
theorem TB.good (h : TB w0 ad cr cb W X b) (hg : Good w0) : Good W := hg.later h.bel
theorem TB.lt (h : TB w0 ad cr cb W X b) : ∀ i, i < 11 → ad i < W.heap.size := by
  have lt : ∀ {g : Nat} {o : Obj}, W.heap[g]? = some o → g < W.heap.size := fun e => (Array.getElem?_eq_some_iff.1 e).1
  obtain ⟨cs, k1, -⟩ := h.bas
  obtain ⟨ds, k3, -⟩ := h.rws
  intro i hi
  rcases (show i < 7 ∨ i = 7 ∨ i = 8 ∨ i = 9 ∨ i = 10 by omega) with q | rfl | rfl | rfl | rfl
  · exact lt (h.row i q).1
  · exact lt k1
  · exact lt k3
  · exact lt h.sum
  · exact lt h.tab
theorem TB.new (h : TB w0 ad cr cb W X b) {g : Nat} (hg : W.heap.size ≤ g) : ∀ i, i < 11 → g ≠ ad i := fun i hi e => by
  have := h.lt i hi; omega
theorem TB.tcell (h : TB w0 ad cr cb W X b) : W.cell? ⟨ad 10, 0, none⟩ = some (.pointer (some ⟨ad 9, 0, none⟩)) ∧ W.cell? ⟨ad 10, 1, none⟩ = some (.int .i64 4) ∧ W.cell? ⟨ad 10, 2, none⟩ = some (.int .i64 6) ∧
    W.cell? ⟨ad 10, 3, none⟩ = some (.slice (some ⟨ad 8, 0, none⟩) 6 cr) ∧ W.cell? ⟨ad 10, 4, none⟩ = some (.slice (some ⟨ad 7, 0, none⟩) 6 cb) ∧ W.cell? ⟨ad 10, 5, none⟩ = some (.slice (some ⟨ad 6, 0, none⟩) 16 16) := by
  have := h.tab
  refine ⟨?_, ?_, ?_, ?_, ?_, ?_⟩ <;> (rw [cell_of_row _ _ _ _ _ _ this]; rfl)
theorem TB.rcell (h : TB w0 ad cr cb W X b) {i : Nat} (hi : i < 6) : W.cell? ⟨ad 8, i, none⟩ = some (.slice (some ⟨ad i, 0, none⟩) 16 16) := by
  obtain ⟨ds, k3, k4⟩ := h.rws
  rw [cell_of_row _ _ _ _ _ _ k3, k4 i hi]
theorem TB.bcell (h : TB w0 ad cr cb W X b) {i : Nat} (hi : i < 6) : W.cell? ⟨ad 7, i, none⟩ = some (.int .i64 (b i : Int)) := by
  obtain ⟨ds, k3, k4⟩ := h.bas
  rw [cell_of_row _ _ _ _ _ _ k3, k4 i hi]
theorem TB.cell (h : TB w0 ad cr cb W X b) {i k : Nat} (hi : i < 7) (hk : k < 16) : W.cell? ⟨ad i, k, none⟩ = some ((Value.string ⟨(rtoa (Lp.at_ (X i) k)).toArray⟩)) := by
  obtain ⟨h1, h2⟩ := h.row i hi
  have hk : k < (X i).length := by omega
  rw [cell_of_row _ _ _ _ _ _ h1, Lp.at_get hk]
  simp [rtC, rtF, List.getElem?_eq_getElem hk]
theorem TB.free (h : TB w0 ad cr cb W X b) {i : Nat} (hi : i < 7) (k : Nat) : W.frozen? ⟨ad i, k, none⟩ = false := frozen_of_row _ _ _ _ _ (h.row i hi).1
theorem TB.bfree (h : TB w0 ad cr cb W X b) (k : Nat) : W.frozen? ⟨ad 7, k, none⟩ = false := by
  obtain ⟨ds, k3, k4⟩ := h.bas
  exact frozen_of_row _ _ _ _ _ k3
theorem TB.ne (h : TB w0 ad cr cb W X b) {i j : Nat} (hi : i < 11) (hj : j < 11) (e : i ≠ j) : ad i ≠ ad j := fun q => e (h.inj i j hi hj q)
/-- A number is put into a row, or into the goal. -/
theorem TB.set (h : TB w0 ad cr cb W X b) {e : Nat} (he : e < 7) (k : Nat) (q : Rat) : TB w0 ad cr cb (W.setCell ⟨ad e, k, none⟩ ((Value.string ⟨(rtoa q).toArray⟩))) (fun i => if i = e then (X e).set k q else X i) b := by
  obtain ⟨cs, k1, k2⟩ := h.bas
  obtain ⟨ds, k3, k4⟩ := h.rws
  have ot : ∀ i, i < 11 → i ≠ e → (W.setCell ⟨ad e, k, none⟩ ((Value.string ⟨(rtoa q).toArray⟩))).heap[ad i]? = W.heap[ad i]? := fun i hi hn => heap_setCell_other W ⟨ad e, k, none⟩ (ad i) _ (h.ne hi (by omega) hn)
  refine ⟨Below.setc h.bel (h.low e (by omega)) k _, h.low, h.inj, fun i hi => ?_, ⟨cs, (ot 7 (by omega) (by omega)).trans k1, k2⟩, ⟨ds, (ot 8 (by omega) (by omega)).trans k3, k4⟩, (ot 9 (by omega) (by omega)).trans h.sum, (ot 10 (by omega) (by omega)).trans h.tab⟩
  by_cases c : i = e
  · subst c
    obtain ⟨h1, h2⟩ := h.row i hi
    simp only [if_true]
    refine ⟨?_, by rw [List.length_set]; exact h2⟩
    rw [heap_setCell_same W (ad i) k _ _ ((Value.string ⟨(rtoa q).toArray⟩)) h1]
    simp [rtC, rtF, List.map_set]
  · simp only [if_neg c]
    exact ⟨(ot i (by omega) c).trans (h.row i hi).1, (h.row i hi).2⟩
theorem TB.setB (h : TB w0 ad cr cb W X b) {r : Nat} (hr : r < 6) (c : Nat) : TB w0 ad cr cb (W.setCell ⟨ad 7, r, none⟩ (.int .i64 (c : Int))) X (fun i => if i = r then c else b i) := by
  obtain ⟨cs, k1, k2⟩ := h.bas
  obtain ⟨ds, k3, k4⟩ := h.rws
  have ot : ∀ i, i < 11 → i ≠ 7 → (W.setCell ⟨ad 7, r, none⟩ (.int .i64 (c : Int))).heap[ad i]? = W.heap[ad i]? := fun i hi hn => heap_setCell_other W ⟨ad 7, r, none⟩ (ad i) _ (h.ne hi (by omega) hn)
  refine ⟨Below.setc h.bel (h.low 7 (by omega)) r _, h.low, h.inj, fun i hi => ⟨(ot i (by omega) (by omega)).trans (h.row i hi).1, (h.row i hi).2⟩,
    ⟨cs.setIfInBounds r (.int .i64 (c : Int)), heap_setCell_same W (ad 7) r _ _ _ k1, fun i hi => ?_⟩, ⟨ds, (ot 8 (by omega) (by omega)).trans k3, k4⟩, (ot 9 (by omega) (by omega)).trans h.sum, (ot 10 (by omega) (by omega)).trans h.tab⟩
  by_cases e : i = r
  · subst e
    rw [if_pos rfl, Array.getElem?_setIfInBounds_self_of_lt (Array.getElem?_eq_some_iff.1 (k2 i hi)).1]
  · rw [if_neg e, Array.getElem?_setIfInBounds_ne (fun q => e q.symm)]
    exact k2 i hi
end
set_option maxRecDepth 100000 in
set_option maxHeartbeats 2000000 in
theorem pwidth_c {w0 W : World} {ad : Nat → Nat} {cr cb : Nat} {X : Nat → List Rat} {b : Nat → Nat} (h : TB w0 ad cr cb W X b) : Calls Tryz.prog 75 #[.pointer (some ⟨ad 10, 0, none⟩)] W (fun e W' => e = .returned (.int .i64 15) ∧ W' = W.drew) := by
  obtain ⟨-, t1, t2, -⟩ := h.tcell
  clear h
  generalize ad 10 = gt at *
  go_enter Tryz.func75, Tryz.ntmps75
  go_wp2_with fail
  go_region
  all_goals
    go_wp2
    go_ret
    exact ⟨rfl, rfl⟩
end Go.Proofs.Wk
/- A REGION THAT DRAWS ITS ORDER AND ENDS BY OPERATIONS IN ONE FORCED ORDER: the first n operations as a region of their own, under a condition on the world that holds till the rest begins; then the rest in the order of the text. -/
namespace Go.Front
open Go
variable {P : Program} {Q Q' : Exit → Act → World → Prop} {l : List Oper} {n : Nat}

/-- The same but for what is said at an ordinary end. -/
def Alike (Q' Q : Exit → Act → World → Prop) : Prop := ∀ e a w, e ≠ .normal → Q' e a w → Q e a w
theorem Alike.lets (h : Alike Q' Q) (k : LetsOut Q') : LetsOut Q := by
  obtain ⟨a, w, k⟩ := k
  exact ⟨a, w, h _ _ _ (by simp) k⟩
theorem oper_alike (hq : Alike Q' Q) {o : Oper} {a : Act} {w : World} {K : Act → World → Prop} (h : o.wp P a w K Q') : o.wp P a w K Q := by
  unfold Oper.wp at *
  generalize (execOp a.eval o).run P w = r at *
  cases r with
  | ok x w' =>
    cases x <;> simp only [Oper.upon] at h ⊢ <;>
      first
        | exact h
        | exact Calls.mono h (fun e w'' he => by
            cases e with
            | returned v => exact he
            | panicked c => exact hq _ _ _ (by simp) he
            | outgrown => exact hq.lets he)
  | halt x w' =>
    cases x <;> simp only [Oper.upon] at h ⊢ <;>
      first
        | exact hq _ _ _ (by simp) h
        | exact h
/-- What is asked of the first n operations: they wait only for those ahead of them, and no guard stands behind them. -/
def headB (l : List Oper) (n : Nat) : Bool :=
  (List.range n).all fun i => match l[i]? with
    | some o => (o.after.all fun e => !Region.binds .any e || decide (e.on < i)) && (match o.guard with | some (g, _) => decide (g < n) | none => true)
    | none => true
theorem headB_spec (h : headB l n = true) {i : Nat} (hi : i < n) {o : Oper} (ho : l[i]? = some o) : (∀ e ∈ o.after, Region.binds .any e = true → e.on < i) ∧ ∀ g b, o.guard = some (g, b) → g < n := by
  have h1 := List.all_eq_true.1 h i (List.mem_range.2 hi)
  rw [ho] at h1
  simp only [Bool.and_eq_true] at h1
  refine ⟨fun e he hb => ?_, fun g b hg => ?_⟩
  · have h2 := Array.all_eq_true_iff_forall_mem.1 h1.1 e he
    rw [hb] at h2
    simpa using h2
  · have h2 := h1.2
    rw [hg] at h2
    simpa using h2
theorem take_at {i : Nat} (hi : i < n) : (l.take n).toArray[i]? = l.toArray[i]? := by
  simp [hi]
theorem wanted_take {o : Oper} {tmps : Array Value} (h : ∀ g b, o.guard = some (g, b) → g < n) : Region.wanted o (yielded (l.take n).toArray tmps) = Region.wanted o (yielded l.toArray tmps) := by
  unfold Region.wanted
  cases hg : o.guard with
  | none => rfl
  | some gb =>
    obtain ⟨g, b⟩ := gb
    have := h g b hg
    simp only
    unfold yielded
    rw [take_at this]
theorem wpOp_take (hq : Alike Q' Q) (hB : headB l n = true) {i : Nat} (hi : i < n) {K : Act → World → Prop} {a : Act} {w : World} (h : wpOp P (l.take n).toArray Q' i K a w) : wpOp P l.toArray Q i K a w := by
  unfold wpOp at *
  rw [take_at hi] at h
  cases ho : l.toArray[i]? with
  | none => rw [ho] at h; exact h
  | some o =>
    rw [ho] at h
    simp only at h ⊢
    have ho' : l[i]? = some o := by simpa using ho
    rw [wanted_take (headB_spec hB hi ho').2] at h
    split
    · rename_i hw
      rw [if_pos hw] at h
      exact h.imp (oper_alike hq) (fun k => ⟨k.1, hq.lets k.2⟩)
    · rename_i hw
      rw [if_neg hw] at h
      exact h
/-- The rest in order, with fuel to spare. -/
theorem wpAny_seq : ∀ (r : List Oper) (k : Nat) (listed : Array Bool) (a : Act) (w : World) (f : Nat), (∀ j, r[j]? = l.toArray[k + j]?) → Region.seqB .any l.toArray r.length k listed = true → wpList P l.toArray Q r a w →
    wpAny P .any l.toArray Q (r.length + f) listed a w
  | [], k, listed, a, w, f, _, hB, h => by
    have hr : Region.ready .any l.toArray listed = [] := by simpa [Region.seqB] using hB
    cases f with
    | zero => exact ⟨hr, h⟩
    | succ f => exact ⟨fun _ => h, fun i hi => by rw [hr] at hi; cases hi⟩
  | o :: r, k, listed, a, w, f, hl, hB, h => by
    have h0 : l.toArray[k]? = some o := by simpa using (hl 0).symm
    simp only [List.length_cons, Region.seqB, Bool.and_eq_true, decide_eq_true_eq] at hB
    rw [List.length_cons, show r.length + 1 + f = (r.length + f) + 1 by omega]
    refine ⟨fun h1 => (by rw [hB.1] at h1; cases h1), fun i hi => ?_⟩
    rw [hB.1] at hi
    have hik : i = k := by simpa using hi
    subst hik
    have hw : wpOp P l.toArray Q i (wpList P l.toArray Q r) a w := by unfold wpOp; simp only [h0]; exact h
    exact wpOp_mono (fun a' w' h' => wpAny_seq r (i + 1) _ a' w' f (fun j => by have := hl (j + 1); simpa [Nat.add_assoc, Nat.add_comm 1 j] using this) hB.2 h') hw
/-- Who is listed in the whole region: those of the head. -/
structure Both (l : List Oper) (n : Nat) (L L' : Array Bool) : Prop where
  inv : HeadInv .any l.toArray n L
  size : L'.size = n
  same : ∀ i, i < n → L'.getD i true = L.getD i true
theorem getD_flip {L : Array Bool} {i : Nat} (hi : i < L.size) : L.getD i false = L.getD i true := by simp [hi]
theorem all_in (hn : n ≤ l.length) (hB : headB l n = true) {L L' : Array Bool} (b : Both l n L L') (h : Region.ready .any (l.take n).toArray L' = []) : ∀ i, i < n → L.getD i true = true := by
  intro i
  induction i using Nat.strongRecOn with
  | _ i ih =>
    intro hi
    cases hc : L.getD i true with
    | true => rfl
    | false =>
      exfalso
      have hlt : i < l.length := by omega
      have ho : l[i]? = some l[i] := List.getElem?_eq_getElem hlt
      have : i ∈ Region.ready .any (l.take n).toArray L' := by
        refine mem_ready.2 ⟨by rw [b.same i hi]; exact hc, l[i], by rw [take_at hi]; simp, fun e he hb => ?_⟩
        have h1 := (headB_spec hB hi ho).1 e he hb
        rw [getD_flip (by rw [b.size]; omega), b.same _ (by omega)]
        exact ih _ h1 (by omega)
      rw [h] at this
      cases this
theorem wpAny_front (hq : Alike Q' Q) (hn : n < l.length) (hB : headB l n = true) (hs : Region.sinkB .any l.toArray n = true) (hc : Region.chainB .any l.toArray n = true)
    (hseq : Region.seqB .any l.toArray (l.length - n) n (Array.replicate n true ++ Array.replicate (l.length - n) false) = true)
    (hend : ∀ a w, Q' .normal a w → wpList P l.toArray Q (l.drop n) a w) :
    ∀ (f : Nat) (L L' : Array Bool) (a : Act) (w : World), Both l n L L' → wpAny P .any (l.take n).toArray Q' f L' a w → wpAny P .any l.toArray Q (l.length - n + f) L a w := by
  have fin : ∀ (f : Nat) (L L' : Array Bool) (a : Act) (w : World), Both l n L L' → Region.ready .any (l.take n).toArray L' = [] → Q' .normal a w → wpAny P .any l.toArray Q (l.length - n + f) L a w := by
    intro f L L' a w b hr h
    have ha := all_in (by omega) hB b hr
    have hL : L = Array.replicate n true ++ Array.replicate (l.length - n) false := by
      have hsz : L.size = l.length := by simpa using b.inv.size
      refine Array.ext (by simp; omega) fun i h1 h2 => ?_
      rw [Array.getElem_append]
      by_cases hi : i < n
      · have := ha i hi
        rw [dif_pos (by simpa using hi)]
        simpa [h1] using this
      · have := b.inv.tail i (by omega) (by simpa using (by omega : i < l.length))
        rw [dif_neg (by simpa using hi)]
        simpa [h1] using this
    have hdl : (l.drop n).length = l.length - n := by simp
    have := wpAny_seq (P := P) (Q := Q) (l := l) (l.drop n) n L a w f (fun j => by simp [List.getElem?_drop]) (by rw [hdl, hL]; exact hseq) (hend a w h)
    rwa [hdl] at this
  intro f
  induction f with
  | zero => exact fun L L' a w b h => fin 0 L L' a w b h.1 h.2
  | succ f ih =>
    intro L L' a w b h
    by_cases hr : Region.ready .any (l.take n).toArray L' = []
    · exact fin (f + 1) L L' a w b hr (h.1 hr)
    · obtain ⟨i0, hi0⟩ := List.exists_mem_of_ne_nil _ hr
      have hlt0 : i0 < n := by
        obtain ⟨_, o, ho, _⟩ := mem_ready.1 hi0
        have := (Array.getElem?_eq_some_iff.1 ho).1
        simp at this; omega
      have hun0 : L.getD i0 true = false := by rw [← b.same i0 hlt0]; exact (mem_ready.1 hi0).1
      have hmem : ∀ i, i ∈ Region.ready .any l.toArray L → i < n ∧ i ∈ Region.ready .any (l.take n).toArray L' := by
        intro i hi
        have hin : i < n := by
          rcases Nat.lt_or_ge i n with h' | h'
          · exact h'
          · exact absurd hi (tail_waits hs hc (by simpa using hn) b.inv _ i0 rfl hlt0 hun0 i h')
        obtain ⟨hu, o, ho, hall⟩ := mem_ready.1 hi
        have ho' : l[i]? = some o := by simpa using ho
        refine ⟨hin, mem_ready.2 ⟨by rw [b.same i hin]; exact hu, o, by rw [take_at hin]; exact ho, fun e he hb => ?_⟩⟩
        have h1 := (headB_spec hB hin ho').1 e he hb
        have hsz : L.size = l.length := by simpa using b.inv.size
        rw [getD_flip (by rw [b.size]; omega), b.same _ (by omega), ← getD_flip (by omega)]
        exact hall e he hb
      rw [show l.length - n + (f + 1) = (l.length - n + f) + 1 by omega]
      refine ⟨fun h0 => ?_, fun i hi => ?_⟩
      · exfalso
        obtain ⟨hu, o, ho, hall⟩ := mem_ready.1 hi0
        rw [take_at hlt0] at ho
        have ho' : l[i0]? = some o := by simpa using ho
        have hsz : L.size = l.length := by simpa using b.inv.size
        have : i0 ∈ Region.ready .any l.toArray L := mem_ready.2 ⟨hun0, o, ho, fun e he hb => by
          have h1 := (headB_spec hB hlt0 ho').1 e he hb
          rw [getD_flip (by omega), ← b.same _ (by omega), ← getD_flip (by rw [b.size]; omega)]
          exact hall e he hb⟩
        rw [h0] at this
        cases this
      · obtain ⟨hin, hi'⟩ := hmem i hi
        refine wpOp_mono (fun a' w' hh => ih _ _ a' w' ⟨b.inv.set hi hin, by simpa using b.size, fun j hj => ?_⟩ hh) (wpOp_take hq hB hin (h.2 i hi'))
        have hsz : L.size = l.length := by simpa using b.inv.size
        by_cases hij : i = j
        · subst hij
          simp [b.size, hsz, hin, show i < l.length by omega]
        · rw [getD_set_ne true hij, getD_set_ne true hij]
          exact b.same j hj
/-- **The head under a condition S, then the rest.** -/
theorem wp_region_front {S : World → Prop} {id : Nat} {a : Act} {w : World} (n : Nat) (hm : P.follows .mixedOrders = true) (hn : n < l.length) (hB : headB l n = true) (hs : Region.sinkB .any l.toArray n = true) (hc : Region.chainB .any l.toArray n = true)
    (hseq : Region.seqB .any l.toArray (l.length - n) n (Array.replicate n true ++ Array.replicate (l.length - n) false) = true) (hS : S w.drew)
    (h : S w.drew → wpAnyH P .any (l.take n).toArray (fun e a w => match e with | .normal => wpList P l.toArray Q (l.drop n) a w | e => Q e a w) S n (Array.replicate n false) a w.drew) : (Code.region id l.toArray true).wp P Q a w := by
  refine wp_region_any hm ?_
  have H := wpAny_front (P := P) (Q := Q) (Q' := fun e a w => match e with | .normal => wpList P l.toArray Q (l.drop n) a w | e => Q e a w) (l := l) (n := n)
    (fun e a w he hh => by cases e <;> first | exact absurd rfl he | exact hh) hn hB hs hc hseq (fun a w hh => hh) n (Array.replicate l.toArray.size false) (Array.replicate n false) a w.drew
    ⟨⟨by simp, fun j oj _ hl => (by rw [getD_replicate_false] at hl; cases hl), fun t _ ht => getD_in (by simpa using ht) (getD_replicate_false _ _)⟩, by simp, fun i hi => by simp [hi, show i < l.length by omega]⟩
    (wpAny_of_held _ _ _ _ (h hS))
  rwa [show l.length - n + n = l.toArray.size by simp; omega] at H
end Go.Front
/- LINEAR PROGRAMS: a row is dropped from another one; a pivot. -/
namespace Go.Proofs.Wk
open Go.RowKit Mt

def upd (X : Nat → List Rat) (e : Nat) (l : List Rat) : Nat → List Rat := fun i => if i = e then l else X i
theorem upd_same (X : Nat → List Rat) (e : Nat) (l : List Rat) : upd X e l e = l := if_pos rfl
theorem upd_other (X : Nat → List Rat) {e i : Nat} (l : List Rat) (h : i ≠ e) : upd X e l i = X i := if_neg h
/-- What the closure of a pivot sees. -/
structure Bx (ad : Nat → Nat) (W : World) (cc ct cr r c : Nat) : Prop where
  c : W.cell? ⟨cc, 0, none⟩ = some (.int .i64 (c : Int))
  t : W.cell? ⟨ct, 0, none⟩ = some (.pointer (some ⟨ad 10, 0, none⟩))
  r : W.cell? ⟨cr, 0, none⟩ = some (.int .i64 (r : Int))
  nc : ∀ i, i < 11 → cc ≠ ad i
  nt : ∀ i, i < 11 → ct ≠ ad i
  nr : ∀ i, i < 11 → cr ≠ ad i
theorem Bx.kp {ad : Nat → Nat} {W W' : World} {cc ct cr r c : Nat} (h : Bx ad W cc ct cr r c) (k : Kp ad W W') : Bx ad W' cc ct cr r c := ⟨k.cell h.c h.nc, k.cell h.t h.nt, k.cell h.r h.nr, h.nc, h.nt, h.nr⟩
section
variable {w0 W : World} {ad : Nat → Nat} {cr cb : Nat} {X : Nat → List Rat} {b : Nat → Nat}
theorem TB.dstep {e k : Nat} {ys : List Rat} {x : Rat} (h : TB w0 ad cr cb W (upd X e (Lp.dropS ys x (X e) k)) b) (he : e < 7) :
    TB w0 ad cr cb (W.setCell ⟨ad e, k, none⟩ ((Value.string ⟨(rtoa (Lp.at_ (X e) k - x * Lp.at_ ys k)).toArray⟩))) (upd X e (Lp.dropS ys x (X e) (k + 1))) b := by
  refine (h.set he k _).congr (fun i _ => ?_) (fun _ _ => rfl)
  by_cases c : i = e
  · subst c
    simp only [if_true, upd_same]
    exact Lp.dropS_step
  · rw [if_neg c, upd_other _ _ c, upd_other _ _ c]
theorem TB.vstep {e k : Nat} {x : Rat} (h : TB w0 ad cr cb W (upd X e (Lp.divS x (X e) k)) b) (he : e < 7) :
    TB w0 ad cr cb (W.setCell ⟨ad e, k, none⟩ ((Value.string ⟨(rtoa (Lp.at_ (X e) k / x)).toArray⟩))) (upd X e (Lp.divS x (X e) (k + 1))) b := by
  refine (h.set he k _).congr (fun i _ => ?_) (fun _ _ => rfl)
  by_cases c : i = e
  · subst c
    simp only [if_true, upd_same]
    exact Lp.divS_step
  · rw [if_neg c, upd_other _ _ c, upd_other _ _ c]
end
/-- A method that ends with no result, and leaves a table. -/
def TbP (w0 : World) (ad : Nat → Nat) (cr cb : Nat) (W : World) (X : Nat → List Rat) (b : Nat → Nat) (e : Ending) (W' : World) : Prop := e = .returned (.tuple #[]) ∧ TB w0 ad cr cb W' X b ∧ Kp ad W W'
set_option maxRecDepth 100000 in
set_option linter.unusedSimpArgs false in
set_option maxHeartbeats 4000000 in
theorem drop_c {w0 W : World} (hg : Good w0) {ad : Nat → Nat} {cr cb : Nat} {X : Nat → List Rat} {b : Nat → Nat} (h : TB w0 ad cr cb W X b) {e r c cc ct cr' : Nat} (he : e < 7) (hr : r < 6) (her : r ≠ e) (hc : c < 16)
    (hx : Lp.smL (X e) = true) (hy : Lp.smL (X r) = true) (B : Bx ad W cc ct cr' r c) :
    Calls Tryz.prog 147 #[.slice (some ⟨ad e, 0, none⟩) 16 16, .pointer (some ⟨cc, 0, none⟩), .pointer (some ⟨ct, 0, none⟩), .pointer (some ⟨cr', 0, none⟩)] W
      (TbP w0 ad cr cb W (upd X e (Lp.dropR (X r) (Lp.at_ (X e) c) (X e))) b) := by
  have HXL := Lib.hid (show (X e).length = 16 from (h.row e he).2)
  have HEND := Lib.hid (show Lp.dropS (X r) (Lp.at_ (X e) c) (X e) 16 = Lp.dropR (X r) (Lp.at_ (X e) c) (X e) from Lp.dropS_all (by rw [HXL.out]; exact Nat.le_refl _))
  have hT0 : TB w0 ad cr cb W (upd X e (Lp.dropS (X r) (Lp.at_ (X e) c) (X e) 0)) b := h.congr (fun i _ => by
    by_cases q : i = e
    · rw [q, upd_same, Lp.dropS_zero]
    · rw [upd_other _ _ q]) (fun _ _ => rfl)
  have HT0 := Lib.hid hT0
  have HB := Lib.hid B
  have HL := Lib.hid (fun k (hk : k < 16) W' (T : TB w0 ad cr cb W' (upd X e (Lp.dropS (X r) (Lp.at_ (X e) c) (X e) k)) b) =>
    pless_c (sm_sz (Lp.smL_at hx hk)) (sm_sz (Lp.smL_at hx hc)) (sm_sz (Lp.smL_at hy hk)) (by omega) (ad 9) W' (T.good hg) T.sum)
  have HC := Lib.hid (fun k (hk : k < 16) W' (T : TB w0 ad cr cb W' (upd X e (Lp.dropS (X r) (Lp.at_ (X e) c) (X e) k)) b) =>
    (⟨by rw [T.cell he hk, upd_same, Lp.dropS_at (by rw [HXL.out]; exact hk)], by rw [T.cell (show r < 7 by omega) hk, upd_other _ _ her]⟩ :
      W'.cell? ⟨ad e, k, none⟩ = some ((Value.string ⟨(rtoa (Lp.at_ (X e) k)).toArray⟩)) ∧ W'.cell? ⟨ad r, k, none⟩ = some ((Value.string ⟨(rtoa (Lp.at_ (X r) k)).toArray⟩))))
  have HS := Lib.hid (fun k W' (T : TB w0 ad cr cb W' (upd X e (Lp.dropS (X r) (Lp.at_ (X e) c) (X e) k)) b) => T.dstep he)
  have b1 := B.c
  have b2 := h.cell he hc
  have i0 : (0 : Int) ≤ (c : Int) := by omega
  have i1 : (c : Int) < 16 := by omega
  have i2 : (0 : Int) ≤ (r : Int) := by omega
  have i3 : (r : Int) < 6 := by omega
  clear h hT0 hx hy B HXL
  generalize Lp.at_ (X e) c = x at *
  go_enter Tryz.func147, Tryz.ntmps147
  go_wp2_with fail
  clear b1 b2
  go_loopw [13] (fun si wr => ∃ k : Nat, si = .int .i64 (k : Int) ∧ k ≤ 16 ∧ Hid (TB w0 ad cr cb wr (upd X e (Lp.dropS (X r) x (X e) k)) b) ∧ Hid (Kp ad W wr)) (fun si _ => 16 - (intOf si).toNat)
  case atStart => exact ⟨0, rfl, Nat.zero_le _, HT0.out, Kp.refl _ _⟩
  case round =>
    obtain ⟨k, rfl, hk, hT, hK⟩ := hrel
    by_cases hlt : k < 16
    · have HL1 := Lib.hid (fun W' T => HL.out k hlt W' T)
      have HS1 := Lib.hid (fun W' T => HS.out k W' T)
      have HC1 := Lib.hid (fun W' T => HC.out k hlt W' T)
      have i4 : (0 : Int) ≤ (k : Int) := by omega
      have i5 : (k : Int) < 16 := by omega
      clear HC HL HS HT0 HEND
      generalize Lp.at_ (X e) k - x * Lp.at_ (X r) k = q at *
      generalize Lp.at_ (X e) k = qe at *
      generalize Lp.at_ (X r) k = qr at *
      have HALL := Lib.hid (fun (W' : World) (hb : Below wr.heap.size wr W') => by
        have T := hT.out.later hb
        have B := HB.out.kp (hK.out.trans (Kp.below hb))
        obtain ⟨k0, k1⟩ := HC1.out _ T
        obtain ⟨t0, -, -, t3, -⟩ := T.tcell
        exact (⟨B.t, B.r, t0, t3, T.rcell hr, k0, k1, T.free he k⟩ : W'.cell? ⟨ct, 0, none⟩ = some (.pointer (some ⟨ad 10, 0, none⟩)) ∧ W'.cell? ⟨cr', 0, none⟩ = some (.int .i64 (r : Int)) ∧ W'.cell? ⟨ad 10, 0, none⟩ = some (.pointer (some ⟨ad 9, 0, none⟩)) ∧ W'.cell? ⟨ad 10, 3, none⟩ = some (.slice (some ⟨ad 8, 0, none⟩) 6 cr) ∧ W'.cell? ⟨ad 8, r, none⟩ = some (.slice (some ⟨ad r, 0, none⟩) 16 16) ∧ W'.cell? ⟨ad e, k, none⟩ = some (.string ⟨(rtoa qe).toArray⟩) ∧ W'.cell? ⟨ad r, k, none⟩ = some (.string ⟨(rtoa qr).toArray⟩) ∧ W'.frozen? ⟨ad e, k, none⟩ = false))
      have hB := Below.refl wr.heap.size wr
      clear HB
      go_upto_region 4 with fail
      refine Go.Front.wp_region_front (S := fun V => V.cell? ⟨ct, 0, none⟩ = some (.pointer (some ⟨ad 10, 0, none⟩)) ∧ V.cell? ⟨cr', 0, none⟩ = some (.int .i64 (r : Int)) ∧ V.cell? ⟨ad 10, 0, none⟩ = some (.pointer (some ⟨ad 9, 0, none⟩)) ∧ V.cell? ⟨ad 10, 3, none⟩ = some (.slice (some ⟨ad 8, 0, none⟩) 6 cr) ∧ V.cell? ⟨ad 8, r, none⟩ = some (.slice (some ⟨ad r, 0, none⟩) 16 16) ∧ V.cell? ⟨ad e, k, none⟩ = some (.string ⟨(rtoa qe).toArray⟩) ∧ V.cell? ⟨ad r, k, none⟩ = some (.string ⟨(rtoa qr).toArray⟩) ∧ V.frozen? ⟨ad e, k, none⟩ = false) 22 (by kernel_rfl) (by simp) (by kernel_rfl) (by kernel_rfl) (by kernel_rfl) (by kernel_rfl) ?_ (fun hHeld => ?_)
      · (first | with_reducible exact HALL.out _ B2 | with_reducible exact HALL.out _ hB.drew)
      simp only [List.take_succ_cons, List.take_zero, List.drop_succ_cons, List.drop_zero]
      refine wpAnyH_take (i := 0) (v := ?_) rfl (by kernel_rfl) (by kernel_rfl) (by kernel_rfl) (fun _ _ _ h => h) (Or.inl ⟨by rfl, ?_⟩) hHeld ?_
      rotate_left
      · intro W hSw; (try dsimp only at hSw); go_simp <;> with_reducible rfl
      (try simp only [Act.put, List.setIfInBounds_toArray, List.set_cons_zero, List.set_cons_succ])
      refine wpAnyH_take (i := 1) (v := ?_) rfl (by kernel_rfl) (by kernel_rfl) (by kernel_rfl) (fun _ _ _ h => h) (Or.inl ⟨by rfl, ?_⟩) hHeld ?_
      rotate_left
      · intro W hSw; (try dsimp only at hSw); go_simp <;> with_reducible rfl
      (try simp only [Act.put, List.setIfInBounds_toArray, List.set_cons_zero, List.set_cons_succ])
      refine wpAnyH_take (i := 2) (v := ?_) rfl (by kernel_rfl) (by kernel_rfl) (by kernel_rfl) (fun _ _ _ h => h) (Or.inl ⟨by rfl, ?_⟩) hHeld ?_
      rotate_left
      · intro W hSw; (try dsimp only at hSw); go_simp <;> with_reducible rfl
      (try simp only [Act.put, List.setIfInBounds_toArray, List.set_cons_zero, List.set_cons_succ])
      refine wpAnyH_take (i := 3) (v := ?_) rfl (by kernel_rfl) (by kernel_rfl) (by kernel_rfl) (fun _ _ _ h => h) (Or.inl ⟨by rfl, ?_⟩) hHeld ?_
      rotate_left
      · intro W hSw; (try dsimp only at hSw); go_simp <;> with_reducible rfl
      (try simp only [Act.put, List.setIfInBounds_toArray, List.set_cons_zero, List.set_cons_succ])
      refine wpAnyH_take (i := 4) (v := ?_) rfl (by kernel_rfl) (by kernel_rfl) (by kernel_rfl) (fun _ _ _ h => h) (Or.inl ⟨by rfl, ?_⟩) hHeld ?_
      rotate_left
      · intro W hSw; (try dsimp only at hSw); go_simp <;> with_reducible rfl
      (try simp only [Act.put, List.setIfInBounds_toArray, List.set_cons_zero, List.set_cons_succ])
      refine wpAnyH_take (i := 5) (v := ?_) rfl (by kernel_rfl) (by kernel_rfl) (by kernel_rfl) (fun _ _ _ h => h) (Or.inl ⟨by rfl, ?_⟩) hHeld ?_
      rotate_left
      · intro W hSw; (try dsimp only at hSw); go_simp <;> with_reducible rfl
      (try simp only [Act.put, List.setIfInBounds_toArray, List.set_cons_zero, List.set_cons_succ])
      refine wpAnyH_take (i := 6) (v := ?_) rfl (by kernel_rfl) (by kernel_rfl) (by kernel_rfl) (fun _ _ _ h => h) (Or.inl ⟨by rfl, ?_⟩) hHeld ?_
      rotate_left
      · intro W hSw; (try dsimp only at hSw); go_simp <;> with_reducible rfl
      (try simp only [Act.put, List.setIfInBounds_toArray, List.set_cons_zero, List.set_cons_succ])
      refine wpAnyH_take (i := 7) (v := ?_) rfl (by kernel_rfl) (by kernel_rfl) (by kernel_rfl) (fun _ _ _ h => h) (Or.inl ⟨by rfl, ?_⟩) hHeld ?_
      rotate_left
      · intro W hSw; (try dsimp only at hSw); go_simp <;> with_reducible rfl
      (try simp only [Act.put, List.setIfInBounds_toArray, List.set_cons_zero, List.set_cons_succ])
      refine wpAnyH_take (i := 8) (v := ?_) rfl (by kernel_rfl) (by kernel_rfl) (by kernel_rfl) (fun _ _ _ h => h) (Or.inl ⟨by rfl, ?_⟩) hHeld ?_
      rotate_left
      · intro W hSw; (try dsimp only at hSw); go_simp <;> with_reducible rfl
      (try simp only [Act.put, List.setIfInBounds_toArray, List.set_cons_zero, List.set_cons_succ])
      refine wpAnyH_take (i := 9) (v := ?_) rfl (by kernel_rfl) (by kernel_rfl) (by kernel_rfl) (fun _ _ _ h => h) (Or.inl ⟨by rfl, ?_⟩) hHeld ?_
      rotate_left
      · intro W hSw; (try dsimp only at hSw); go_simp <;> with_reducible rfl
      (try simp only [Act.put, List.setIfInBounds_toArray, List.set_cons_zero, List.set_cons_succ])
      refine wpAnyH_take (i := 10) (v := ?_) rfl (by kernel_rfl) (by kernel_rfl) (by kernel_rfl) (fun _ _ _ h => h) (Or.inl ⟨by rfl, ?_⟩) hHeld ?_
      rotate_left
      · intro W hSw; (try dsimp only at hSw); go_simp <;> with_reducible rfl
      (try simp only [Act.put, List.setIfInBounds_toArray, List.set_cons_zero, List.set_cons_succ])
      refine wpAnyH_take (i := 11) (v := ?_) rfl (by kernel_rfl) (by kernel_rfl) (by kernel_rfl) (fun _ _ _ h => h) (Or.inl ⟨by rfl, ?_⟩) hHeld ?_
      rotate_left
      · intro W hSw; (try dsimp only at hSw); go_simp <;> with_reducible rfl
      (try simp only [Act.put, List.setIfInBounds_toArray, List.set_cons_zero, List.set_cons_succ])
      refine wpAnyH_take (i := 12) (v := ?_) rfl (by kernel_rfl) (by kernel_rfl) (by kernel_rfl) (fun _ _ _ h => h) (Or.inl ⟨by rfl, ?_⟩) hHeld ?_
      rotate_left
      · intro W hSw; (try dsimp only at hSw); go_simp <;> with_reducible rfl
      (try simp only [Act.put, List.setIfInBounds_toArray, List.set_cons_zero, List.set_cons_succ])
      refine wpAnyH_take (i := 13) (v := ?_) rfl (by kernel_rfl) (by kernel_rfl) (by kernel_rfl) (fun _ _ _ h => h) (Or.inl ⟨by rfl, ?_⟩) hHeld ?_
      rotate_left
      · intro W hSw; (try dsimp only at hSw); go_simp <;> with_reducible rfl
      (try simp only [Act.put, List.setIfInBounds_toArray, List.set_cons_zero, List.set_cons_succ])
      refine wpAnyH_take (i := 14) (v := ?_) rfl (by kernel_rfl) (by kernel_rfl) (by kernel_rfl) (fun _ _ _ h => h) (Or.inl ⟨by rfl, ?_⟩) hHeld ?_
      rotate_left
      · intro W hSw; (try dsimp only at hSw); go_simp <;> with_reducible rfl
      (try simp only [Act.put, List.setIfInBounds_toArray, List.set_cons_zero, List.set_cons_succ])
      refine wpAnyH_take (i := 15) (v := ?_) rfl (by kernel_rfl) (by kernel_rfl) (by kernel_rfl) (fun _ _ _ h => h) (Or.inl ⟨by rfl, ?_⟩) hHeld ?_
      rotate_left
      · intro W hSw; (try dsimp only at hSw); go_simp <;> with_reducible rfl
      (try simp only [Act.put, List.setIfInBounds_toArray, List.set_cons_zero, List.set_cons_succ])
      refine wpAnyH_take (i := 16) (v := ?_) rfl (by kernel_rfl) (by kernel_rfl) (by kernel_rfl) (fun _ _ _ h => h) (Or.inl ⟨by rfl, ?_⟩) hHeld ?_
      rotate_left
      · intro W hSw; (try dsimp only at hSw); go_simp <;> with_reducible rfl
      (try simp only [Act.put, List.setIfInBounds_toArray, List.set_cons_zero, List.set_cons_succ])
      refine wpAnyH_take (i := 17) (v := ?_) rfl (by kernel_rfl) (by kernel_rfl) (by kernel_rfl) (fun _ _ _ h => h) (Or.inl ⟨by rfl, ?_⟩) hHeld ?_
      rotate_left
      · intro W hSw; (try dsimp only at hSw); go_simp <;> with_reducible rfl
      (try simp only [Act.put, List.setIfInBounds_toArray, List.set_cons_zero, List.set_cons_succ])
      refine wpAnyH_take (i := 18) (v := ?_) rfl (by kernel_rfl) (by kernel_rfl) (by kernel_rfl) (fun _ _ _ h => h) (Or.inl ⟨by rfl, ?_⟩) hHeld ?_
      rotate_left
      · intro W hSw; (try dsimp only at hSw); go_simp <;> with_reducible rfl
      (try simp only [Act.put, List.setIfInBounds_toArray, List.set_cons_zero, List.set_cons_succ])
      refine wpAnyH_take (i := 19) (v := ?_) rfl (by kernel_rfl) (by kernel_rfl) (by kernel_rfl) (fun _ _ _ h => h) (Or.inl ⟨by rfl, ?_⟩) hHeld ?_
      rotate_left
      · intro W hSw; (try dsimp only at hSw); go_simp <;> with_reducible rfl
      (try simp only [Act.put, List.setIfInBounds_toArray, List.set_cons_zero, List.set_cons_succ])
      refine wpAnyH_take (i := 20) (v := ?_) rfl (by kernel_rfl) (by kernel_rfl) (by kernel_rfl) (fun _ _ _ h => h) (Or.inl ⟨by rfl, ?_⟩) hHeld ?_
      rotate_left
      · intro W hSw; (try dsimp only at hSw); go_simp <;> with_reducible rfl
      (try simp only [Act.put, List.setIfInBounds_toArray, List.set_cons_zero, List.set_cons_succ])
      refine wpAnyH_ready (rs := [21]) (by kernel_rfl) (by simp) ?_
      refine AllReadyH.cons rfl (fun K hK => ?_) AllReadyH.nil
      go_simp
      ((with_reducible refine (HL1.out _ hT.out.drew).mono ?_); rintro en w2 ⟨rfl, hb2⟩; have B2 := hB.drew.nxt hb2)
      refine hK.out _ _ ?_ (fun hHeld => ?_)
      · ((try dsimp only); first | with_reducible exact HALL.out _ B2 | with_reducible exact HALL.out _ hB.drew)
      clear hK K
      (try simp only [Act.put, List.setIfInBounds_toArray, List.set_cons_zero, List.set_cons_succ])
      refine wpAnyH_done (by kernel_rfl) ?_ _
      show wpList _ _ _ _ _ _
      have T2 := hT.out.later B2
      have T3 := Lib.hid (HS1.out _ T2)
      have K3 := Lib.hid ((hK.out.trans (Kp.below B2)).trans (Kp.set _ (show e < 11 by omega) k (.string ⟨(rtoa q).toArray⟩)))
      have f1 := T2.free he k
      have f2 := (HC1.out _ T2).1
      clear T2 hT hK HALL HL1 HS1 hHeld HC1 B2 hb2
      go_wp2
      go_roundw
      case rel => exact ⟨k + 1, by go_num, by omega, T3.out, K3.out⟩
      case measure => simp [intOf]; omega
    · obtain rfl : k = 16 := by omega
      have hT1 := hT.out
      rw [HEND.out] at hT1
      have HT1 := Lib.hid hT1
      clear hT1 hT
      go_wp2
      refine bodyPost_ret (results_none rfl _ _ _) rfl ?_
      exact ⟨rfl, HT1.out, hK.out⟩
end Go.Proofs.Wk
