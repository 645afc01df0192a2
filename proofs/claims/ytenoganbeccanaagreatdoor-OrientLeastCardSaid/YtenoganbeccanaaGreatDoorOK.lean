/- SQUARENESS: proofs of the upright zone: what is answered; the reference's questions. -/
import Derived.Test.YtenoganbeccanaaGreatDoorOJ
namespace Go.Proofs.Wk
open Go.RowKit Mt

/-- The height of a third point over a pair. -/
def hgtN (ls : List Or.P3) (d : Or.P3) (i j k : Nat) : Int := Or.dot (nrm ls d i j) (Or.sub (Or.at_ ls k) (Or.at_ ls i))
def hgQ (ls : List Or.P3) (d : Or.P3) (i j k : Nat) : Rat := Rat.divInt (hgtN ls d i j k * hgtN ls d i j k) (Or.dot (nrm ls d i j) (nrm ls d i j))
/-- What the reference asks of a proof. -/
def pvO (ls : List Or.P3) (d : Or.P3) (sq : Txt) (i j k : Nat) : Bool :=
  if Or.lined ls d = true then decide (sq = [48]) && (decide (i = 0) && (decide (j = 0) && decide (k = 0)))
  else Or.okS ls d i j && (decide (rtoa (Or.sv ls d (Or.sup ls d i j)) = sq) && (decide (i < j) && decide (rtoa (hgQ ls d i j k) = sq)))
/-- What the program asks. -/
def pvP (ls : List Or.P3) (d : Or.P3) (sq : Txt) (i j k : Nat) : Bool :=
  if Or.okS ls d i j = false ∨ j ≤ i then !(Or.okS ls d (Or.prI (Or.least ls d)) (Or.prJ (Or.least ls d))) && (decide (i = Or.prI (Or.least ls d)) && (decide (j = Or.prJ (Or.least ls d)) && decide (k = Or.prK (Or.least ls d))))
  else decide (rtoa (Or.sv ls d (Or.sup ls d i j)) = sq) && decide (rtoa (hgQ ls d i j k) = sq)
theorem pvP_eq {ls : List Or.P3} {d : Or.P3} {sq : Txt} {i j k : Nat} (hd : d ≠ ⟨0, 0, 0⟩) (h0 : 0 < ls.length) (hi : i < ls.length) (hj : j < ls.length) (hq : rtoa (Or.wid ls d) = sq) : pvP ls d sq i j k = pvO ls d sq i j k := by
  unfold pvP pvO
  refine Or.ver_eq hd h0 i j k hi hj (decide (rtoa (Or.sv ls d (Or.sup ls d i j)) = sq)) (decide (rtoa (hgQ ls d i j k) = sq)) (decide (sq = [48])) (fun hl => ?_)
  apply decide_eq_true
  rw [← hq]
  unfold Or.wid
  rw [Or.lined_least hl]
  exact rtoa_zero
def idxO (ls : List Or.P3) (i : Int) : Prop := 0 ≤ i ∧ i < ls.length
instance (ls : List Or.P3) (i : Int) : Decidable (idxO ls i) := by unfold idxO; infer_instance
/-- What VerifyUpright answers. -/
def vuE (ls : List Or.P3) (d : Or.P3) (sq : Txt) (i j k : Int) : Bool × Int :=
  if highE ls d = 0 then (if rchk sq = 0 then (if idxO ls i ∧ idxO ls j ∧ idxO ls k then (decide (rtoa (Or.wid ls d) = sq) && pvO ls d sq i.toNat j.toNat k.toNat, 0) else (false, 2)) else (false, rchk sq)) else (false, highE ls d)
section
variable {ls : List Or.P3} {d : Or.P3} {sq : Txt} {i j k : Int}
theorem vuE_bad (h : ¬ highE ls d = 0) : vuE ls d sq i j k = (false, highE ls d) := if_neg h
theorem vuE_chk (h : highE ls d = 0) (h2 : ¬ rchk sq = 0) : vuE ls d sq i j k = (false, rchk sq) := by unfold vuE; rw [if_pos h, if_neg h2]
theorem vuE_out (h : highE ls d = 0) (h2 : rchk sq = 0) (h3 : ¬ (idxO ls i ∧ idxO ls j ∧ idxO ls k)) : vuE ls d sq i j k = (false, 2) := by unfold vuE; rw [if_pos h, if_pos h2, if_neg h3]
theorem vuE_ok (h : highE ls d = 0) (h2 : rchk sq = 0) (h3 : idxO ls i ∧ idxO ls j ∧ idxO ls k) : vuE ls d sq i j k = (decide (rtoa (Or.wid ls d) = sq) && pvO ls d sq i.toNat j.toNat k.toNat, 0) := by unfold vuE; rw [if_pos h, if_pos h2, if_pos h3]
end
theorem idxO_any {ls : List Or.P3} {i j f : Int} {k : Nat} {hk : k < 3} (h : ¬ idxO ls [i, j, f][k]) : ¬ (idxO ls i ∧ idxO ls j ∧ idxO ls f) := by
  rintro ⟨a, b, c⟩
  match k, hk, h with
  | 0, _, h => exact h a
  | 1, _, h => exact h b
  | 2, _, h => exact h c
theorem idxO_next {ls : List Or.P3} {i j f : Int} {k : Nat} (hk : k < 3) (h : ∀ (m : Nat) (hm : m < 3), m < k → idxO ls [i, j, f][m]) (hx : idxO ls [i, j, f][k]) : ∀ (m : Nat) (hm : m < 3), m < k + 1 → idxO ls [i, j, f][m] := fun m hm h2 => by
  by_cases e : m = k
  · subst e; exact hx
  · exact h m hm (by omega)
theorem idxO_all {ls : List Or.P3} {i j f : Int} (h : ∀ (k : Nat) (hk : k < 3), idxO ls [i, j, f][k]) : idxO ls i ∧ idxO ls j ∧ idxO ls f := ⟨h 0 (by decide), h 1 (by decide), h 2 (by decide)⟩
set_option maxRecDepth 100000 in
/-- Three ints held as an array. -/
theorem run_ix3 (w : World) (i j f : Int) : ∀ (k : Nat) (hk : k < 3), (Instr.index 57 (.agg #[.int .i64 i, .int .i64 j, .int .i64 f]) (.int .i64 (k : Int))).run Tryz.prog w = .ok (.int .i64 [i, j, f][k]) w := fun k hk => by
  match k, hk with
  | 0, _ => rfl
  | 1, _ => rfl
  | 2, _ => rfl
theorem ijk (a b c x y z : Nat) : (((a : Int) == (x : Int)) && (((b : Int) == (y : Int)) && ((c : Int) == (z : Int)))) = (decide (a = x) && (decide (b = y) && decide (c = z))) := by
  rw [Bool.eq_iff_iff]; simp; omega
theorem hgtN_bd {ls : List Or.P3} {d : Or.P3} {i j k : Nat} (hd : InS d) (hin : ∀ p ∈ ls, InS p) (hi : i < ls.length) (hj : j < ls.length) (hk : k < ls.length) : -24000000000000000 ≤ hgtN ls d i j k ∧ hgtN ls d i j k ≤ 24000000000000000 :=
  hgt_bd hd hin hi hj (hin _ (Or.at_mem hk))
theorem ok_nz {ls : List Or.P3} {d : Or.P3} {i j : Nat} (hi : i < ls.length) (h : Or.okS ls d i j = true) : nrm ls d i j ≠ ⟨0, 0, 0⟩ := by
  have hl : ls ≠ [] := by rintro rfl; simp at hi
  exact ((Or.okS_iff hl).1 h).1
end Go.Proofs.Wk
/- SQUARENESS: VerifyUpright, in the program. -/
namespace Go.Proofs.Wk
open Go.RowKit Mt

/-- The boxes of a direction and of three ints. -/
structure VwM (w W : World) (d : Or.P3) (i j k : Int) : Prop where
  d : W.heap[w.heap.size]? = some (.cells #[.int .i64 d.x, .int .i64 d.y, .int .i64 d.z] 52 (0, 0))
  a : W.heap[w.heap.size + 1]? = some (.cells #[.int .i64 i, .int .i64 j, .int .i64 k] 57 (0, 0))
  w : Below w.heap.size w W
theorem VwM.later {w W W' : World} {d : Or.P3} {i j k : Int} (h : VwM w W d i j k) (hb : Below W.heap.size W W') : VwM w W' d i j k := ⟨keepD h.d hb, keepD h.a hb, h.w.nx hb⟩
theorem VwM.t {w W : World} {dx dy dz i j k : Int} (h : VwM w W ⟨dx, dy, dz⟩ i j k) : W.cell? ⟨w.heap.size, 0, none⟩ = some (.int .i64 dx) ∧ W.cell? ⟨w.heap.size, 1, none⟩ = some (.int .i64 dy) ∧ W.cell? ⟨w.heap.size, 2, none⟩ = some (.int .i64 dz) ∧ W.cell? ⟨w.heap.size + 1, 0, none⟩ = some (.int .i64 i) ∧ W.cell? ⟨w.heap.size + 1, 1, none⟩ = some (.int .i64 j) ∧ W.cell? ⟨w.heap.size + 1, 2, none⟩ = some (.int .i64 k) :=
  ⟨(c3row h.d).1, (c3row h.d).2.1, (c3row h.d).2.2, (c3row h.a).1, (c3row h.a).2.1, (c3row h.a).2.2⟩
theorem vwM_new (w : World) (d : Or.P3) (i j k : Int) : VwM w ((w.alloc (.cells #[.int .i64 d.x, .int .i64 d.y, .int .i64 d.z] 52)).alloc (.cells #[.int .i64 i, .int .i64 j, .int .i64 k] 57)) d i j k := ⟨keepD (heap_alloc_new w _) (below_al _ _), new2 w _ _, bx2 w _ _⟩
theorem supp_form (ls : List Or.P3) (d : Or.P3) (i j : Nat) : ∃ s n, suppV ls d i j = .tuple #[supV s n, .bool (Or.okS ls d i j)] := by
  cases h : Or.okS ls d i j with
  | true => exact ⟨_, _, suppV_yes h⟩
  | false => exact ⟨_, _, suppV_no h⟩
theorem first_lt {ls : List Or.P3} (d : Or.P3) (h0 : 0 < ls.length) : Or.prI (Or.least ls d) < ls.length ∧ Or.prJ (Or.least ls d) < ls.length := by
  cases h : Or.least ls d with
  | none => exact ⟨h0, h0⟩
  | some z =>
    obtain ⟨h1, h2, -⟩ := Or.wid_par h
    exact ⟨by show z.i < _; omega, h2⟩
/-- What the program reads of a proof. -/
structure VsR (w W : World) (gs : Nat) (s : Or.Sup) (n : Or.P3) (i j k b o1 o3 : Nat) (p r : Or.P3) : Prop where
  s : W.heap[gs]? = some (.cells (supC s n) 146 (0, 0))
  a : W.heap[w.heap.size + 1]? = some (.cells (prC i j k) 57 (0, 0))
  p : SpAt W b o1 p
  r : SpAt W b o3 r
  w : Below w.heap.size w W
section
variable {w W : World} {gs : Nat} {s : Or.Sup} {n : Or.P3} {i j k b o1 o3 : Nat} {p r : Or.P3}
theorem VsR.later {W' : World} (h : VsR w W gs s n i j k b o1 o3 p r) (hb : Below W.heap.size W W') : VsR w W' gs s n i j k b o1 o3 p r := ⟨keepD h.s hb, keepD h.a hb, h.p.later hb, h.r.later hb, h.w.nx hb⟩
theorem VsR.drew (h : VsR w W gs s n i j k b o1 o3 p r) : VsR w W.drew gs s n i j k b o1 o3 p r := ⟨h.s, h.a, h.p.drew, h.r.drew, h.w.drew⟩
end
theorem VsR.t {w W : World} {gs : Nat} {xi xj xa : Nat} {xf nx ny nz : Int} {i j k b o1 o3 : Nat} {px py pz rx ry rz : Int} (h : VsR w W gs ⟨xi, xj, xf, xa⟩ ⟨nx, ny, nz⟩ i j k b o1 o3 ⟨px, py, pz⟩ ⟨rx, ry, rz⟩) :
    W.cell? ⟨gs, 2, none⟩ = some (.int .i64 xf) ∧ W.cell? ⟨gs, 4, none⟩ = some (.int .i64 nx) ∧ W.cell? ⟨gs, 5, none⟩ = some (.int .i64 ny) ∧ W.cell? ⟨gs, 6, none⟩ = some (.int .i64 nz) ∧ W.cell? ⟨w.heap.size + 1, 0, none⟩ = some (.int .i64 (i : Int)) ∧ W.cell? ⟨w.heap.size + 1, 1, none⟩ = some (.int .i64 (j : Int)) ∧ W.cell? ⟨w.heap.size + 1, 2, none⟩ = some (.int .i64 (k : Int)) ∧
    W.cell? ⟨b, o1, none⟩ = some (.int .i64 px) ∧ W.cell? ⟨b, o1 + 1, none⟩ = some (.int .i64 py) ∧ W.cell? ⟨b, o1 + 2, none⟩ = some (.int .i64 pz) ∧ W.cell? ⟨b, o3, none⟩ = some (.int .i64 rx) ∧ W.cell? ⟨b, o3 + 1, none⟩ = some (.int .i64 ry) ∧ W.cell? ⟨b, o3 + 2, none⟩ = some (.int .i64 rz) ∧
    VsR w W gs ⟨xi, xj, xf, xa⟩ ⟨nx, ny, nz⟩ i j k b o1 o3 ⟨px, py, pz⟩ ⟨rx, ry, rz⟩ :=
  ⟨(c7row h.s).2.2.1, (c7row h.s).2.2.2.2.1, (c7row h.s).2.2.2.2.2.1, (c7row h.s).2.2.2.2.2.2, (c3row h.a).1, (c3row h.a).2.1, (c3row h.a).2.2, h.p.c0, h.p.c1, h.p.c2, h.r.c0, h.r.c1, h.r.c2, h⟩
theorem two_cell (w : World) (a b : Int) (t : TypeId) : ∀ (k : Nat) (hk : k < 2), (w.alloc (.cells #[.int .i64 a, .int .i64 b] t)).cell? ⟨w.heap.size, k, none⟩ = some (.int .i64 [a, b][k]) := fun k hk => by
  rw [cell_of_row _ _ _ _ _ _ (heap_alloc_new w _)]
  match k, hk with
  | 0, _ => rfl
  | 1, _ => rfl
set_option maxRecDepth 100000 in
set_option maxHeartbeats 8000000 in
theorem VerifyUpright_c {v : Value} (ls : List Or.P3) (d : Or.P3) (sq : Txt) (i j k : Int) (w : World) (hg : Good w) (S : SlX w v ls) (hln : ls.length ≤ 140737488355328) (hsq : sq.length ≤ 140737488355328) :
    Calls Tryz.prog 55 #[v, spV d, .string ⟨sq.toArray⟩, .agg #[.int .i64 i, .int .i64 j, .int .i64 k]] w (Ret w (bint (vuE ls d sq i j k))) := by
  have HER := Lib.hid (fun W (h : Below w.heap.size w W) => ospace_c ls d W (S.later h) hln)
  have HQC := Lib.hid (fun W (h : Below w.heap.size w W) => qCheck_c sq W (hg.later h) hsq)
  have hz := vwM_new w d i j k
  by_cases h0 : highE ls d = 0
  rotate_left
  · rw [vuE_bad h0]
    generalize highE ls d = E at *
    have z : (E != 0) = true := bne_iff_ne.2 h0
    obtain ⟨sa, cap, rfl⟩ := S.lenS
    obtain ⟨dx, dy, dz⟩ := d
    have HZ := Lib.hid hz
    clear h0 S hg hz
    go_enter Tryz.func55, Tryz.ntmps55
    go_wp2_with fail
    generalize (w.alloc (.cells #[.int .i64 dx, .int .i64 dy, .int .i64 dz] 52)).alloc (.cells #[.int .i64 i, .int .i64 j, .int .i64 k] 57) = W0 at *
    obtain ⟨d0, d1, d2, -⟩ := HZ.out.t
    go_wp2_with fail
    ((with_reducible refine (HER.out _ HZ.out.w).mono ?_); rintro e w1 ⟨rfl, hb1⟩)
    have hB1 := HZ.out.w.nx hb1
    clear d0 d1 d2
    go_wp2
    go_ret2
    exact ⟨rfl, hB1⟩
  by_cases hc : rchk sq = 0
  rotate_left
  · rw [vuE_chk h0 hc]
    rw [h0] at HER
    generalize rchk sq = E at *
    have z : (E != 0) = true := bne_iff_ne.2 hc
    obtain ⟨sa, cap, rfl⟩ := S.lenS
    obtain ⟨dx, dy, dz⟩ := d
    have HZ := Lib.hid hz
    clear h0 S hg hc hz
    go_enter Tryz.func55, Tryz.ntmps55
    go_wp2_with fail
    generalize (w.alloc (.cells #[.int .i64 dx, .int .i64 dy, .int .i64 dz] 52)).alloc (.cells #[.int .i64 i, .int .i64 j, .int .i64 k] 57) = W0 at *
    obtain ⟨d0, d1, d2, -⟩ := HZ.out.t
    go_wp2_with fail
    ((with_reducible refine (HER.out _ HZ.out.w).mono ?_); rintro e w1 ⟨rfl, hb1⟩)
    have hB1 := HZ.out.w.nx hb1
    clear d0 d1 d2
    go_wp2_with fail
    ((with_reducible refine (HQC.out _ hB1).mono ?_); rintro e w2 ⟨rfl, hb2⟩)
    have hB2 := hB1.nx hb2
    go_wp2
    go_ret2
    exact ⟨rfl, hB2⟩
  rw [h0] at HER
  rw [hc] at HQC
  obtain ⟨l0, l64, hin, hd, hne⟩ := highE_ok h0
  have HOUT := Lib.hid (fun h => vuE_out (i := i) (j := j) (k := k) h0 hc h)
  have HOK := Lib.hid (fun h => vuE_ok (i := i) (j := j) (k := k) h0 hc h)
  have HUP := Lib.hid (fun W (h : Below w.heap.size w W) => upright_c ls d W (hg.later h) (S.later h) hin hd l0 l64)
  have HSU := Lib.hid (fun a b (ha : a < ls.length) (hb : b < ls.length) W (h : Below w.heap.size w W) => supported_c ls d a b W (S.later h) hin hd ha hb l64)
  have HFL := Lib.hid (first_lt d l0)
  have HPE := Lib.hid (fun a b c (ha : a < ls.length) (hb : b < ls.length) (hq : rtoa (Or.wid ls d) = sq) => pvP_eq (k := c) hne l0 ha hb hq)
  have HPP := Lib.hid (fun a b c => show pvP ls d sq a b c = if Or.okS ls d a b = false ∨ b ≤ a then !(Or.okS ls d (Or.prI (Or.least ls d)) (Or.prJ (Or.least ls d))) && (decide (a = Or.prI (Or.least ls d)) && (decide (b = Or.prJ (Or.least ls d)) && decide (c = Or.prK (Or.least ls d)))) else decide (rtoa (Or.sv ls d (Or.sup ls d a b)) = sq) && decide (rtoa (hgQ ls d a b c) = sq) from rfl)
  have HLS := Lib.hid (fun a c (ha : a < ls.length) (hc : c < ls.length) W => oless_c (Or.at_ ls c) (Or.at_ ls a) 100000 100000 W (Bd.of (hin _ (Or.at_mem hc))) (Bd.of (hin _ (Or.at_mem ha))) (by decide))
  have HDT := Lib.hid (show ∀ a b c, a < ls.length → b < ls.length → c < ls.length → ∀ W, Calls Tryz.prog 92 #[spV (nrm ls d a b), spV (Or.sub (Or.at_ ls c) (Or.at_ ls a))] W (Ret W (.int .i64 (hgtN ls d a b c))) from fun a b c ha hb hc W => odot_c (nrm ls d a b) (Or.sub (Or.at_ ls c) (Or.at_ ls a)) 40000000000 200000 W (nrm_bd hd hin ha hb) ((Bd.of (hin _ (Or.at_mem hc))).sub (Bd.of (hin _ (Or.at_mem ha))) (by decide)) (by decide))
  have HQ1 := Lib.hid (show ∀ a b, a < ls.length → b < ls.length → Or.okS ls d a b = true → ∀ W, Below w.heap.size w W → Calls Tryz.prog 93 #[.int .i64 (Or.sup ls d a b).far, spV (nrm ls d a b)] W (Ret W (ans2 (rtoa (Or.sv ls d (Or.sup ls d a b)), 0))) from fun a b ha hb ho W h => by
    have := osquared_c (Or.sup ls d a b).far (nrm ls d a b) W (hg.later h) (by have := sup_bd hd hin ha hb; omega) ((nrm_bd hd hin ha hb).mono (by decide)) (ok_nz ha ho)
    rwa [sv_sqd] at this)
  have HQ2 := Lib.hid (show ∀ a b c, a < ls.length → b < ls.length → c < ls.length → Or.okS ls d a b = true → ∀ W, Below w.heap.size w W → Calls Tryz.prog 93 #[.int .i64 (hgtN ls d a b c), spV (nrm ls d a b)] W (Ret W (ans2 (rtoa (hgQ ls d a b c), 0))) from fun a b c ha hb hc ho W h => osquared_c (hgtN ls d a b c) (nrm ls d a b) W (hg.later h) (by have := hgtN_bd hd hin ha hb hc; omega) ((nrm_bd hd hin ha hb).mono (by decide)) (ok_nz ha ho))
  have HSF := Lib.hid (fun a b => supp_form ls d a b)
  have HSY := Lib.hid (fun a b (h : Or.okS ls d a b = true) => suppV_yes h)
  have HSI := Lib.hid (fun a b => Or.sup_ij ls d a b)
  unfold uprV at HUP
  refine S.cases _ ?_ ?_
  · rintro a cap rfl rfl
    simp at l0
  rintro b off cap rfl hp hR hb
  have HRR := Lib.hid (fun (W : World) (h : Below w.heap.size w W) (k : Nat) (hk : k < ls.length) => (hR.later h hb).spAt hk)
  generalize vuE ls d sq i j k = Y at *
  obtain ⟨Y1, Y2⟩ := Y
  obtain ⟨dx, dy, dz⟩ := d
  have HZ := Lib.hid hz
  clear h0 hc S hz hg hR hp hb hin hd hne l0 l64
  go_enter Tryz.func55, Tryz.ntmps55
  go_wp2_with fail
  generalize (w.alloc (.cells #[.int .i64 dx, .int .i64 dy, .int .i64 dz] 52)).alloc (.cells #[.int .i64 i, .int .i64 j, .int .i64 k] 57) = W0 at *
  obtain ⟨d0, d1, d2, a0, a1, a2⟩ := HZ.out.t
  go_wp2_with fail
  ((with_reducible refine (HER.out _ HZ.out.w).mono ?_); rintro e w1 ⟨rfl, hb1⟩)
  have HZ1 := Lib.hid (HZ.out.later hb1)
  clear hb1 HZ d0 d1 d2 a0 a1 a2 HER
  go_wp2_with fail
  ((with_reducible refine (HQC.out _ HZ1.out.w).mono ?_); rintro e w2 ⟨rfl, hb2⟩)
  have HZ2 := Lib.hid (HZ1.out.later hb2)
  clear hb2 HZ1 HQC
  obtain ⟨d0, d1, d2, a0, a1, a2⟩ := HZ2.out.t
  go_wp2_with fail
  have HIX := Lib.hid (fun k' (hk : k' < 3) W => run_ix3 W i j k k' hk)
  clear d0 d1 d2 a0 a1 a2
  go_loopw [37] (fun sk wr => ∃ m : Nat, sk = .int .i64 (m : Int) ∧ m ≤ 3 ∧ wr = w2 ∧ Hid (∀ (q : Nat) (hq : q < 3), q < m → idxO ls [i, j, k][q])) (fun sk _ => 3 - (intOf sk).toNat)
  case atStart => exact ⟨0, rfl, by omega, rfl, fun q _ h => absurd h (Nat.not_lt_zero q)⟩
  case round =>
    obtain ⟨m, rfl, hm, rfl, hid⟩ := hrel
    by_cases hlt : m < 3
    · have hix := HIX.out m hlt
      have hany := fun h => HOUT.out (idxO_any (hk := hlt) h)
      have hnext := fun h => idxO_next hlt hid.out h
      generalize [i, j, k][m] = x at *
      have HWW := Lib.hid HZ2.out.w
      rcases (by omega : x < 0 ∨ (0 ≤ x ∧ x < (ls.length : Int)) ∨ (0 ≤ x ∧ (ls.length : Int) ≤ x)) with h | ⟨h, h'⟩ | ⟨h, h'⟩
      · obtain ⟨rfl, rfl⟩ := Prod.mk.inj (hany (fun q => by have := q.1; omega))
        clear hany hnext HOUT HOK HIX
        go_wp2
        go_ret2
        exact ⟨rfl, HWW.out⟩
      · have HNX := Lib.hid (hnext ⟨h, h'⟩)
        clear hany hnext
        go_wp2
        go_roundw
        case rel => exact ⟨m + 1, by go_num, by omega, trivial, HNX.out⟩
        case measure => simp [intOf]; omega
      · obtain ⟨rfl, rfl⟩ := Prod.mk.inj (hany (fun q => by have := q.2; omega))
        clear hany hnext HOUT HOK HIX
        go_wp2
        go_ret2
        exact ⟨rfl, HWW.out⟩
    · obtain rfl : m = 3 := by omega
      have hok := idxO_all (fun m hm => hid.out m hm hm)
      have hv := HOK.out hok
      obtain ⟨⟨p1, p2⟩, ⟨p3, p4⟩, p5, p6⟩ := hok
      obtain ⟨ni, rfl⟩ := Int.eq_ofNat_of_zero_le p1
      obtain ⟨nj, rfl⟩ := Int.eq_ofNat_of_zero_le p3
      obtain ⟨nk, rfl⟩ := Int.eq_ofNat_of_zero_le p5
      simp only [Int.toNat_natCast] at hv
      have hi : ni < ls.length := by omega
      have hj : nj < ls.length := by omega
      have hk : nk < ls.length := by omega
      clear HOUT HOK hid HIX p1 p2 p3 p4 p5 p6
      have hpe := HPE.out ni nj nk hi hj
      have hpp := HPP.out ni nj nk
      have hfl := HFL.out
      generalize pvP ls ⟨dx, dy, dz⟩ sq ni nj nk = PP at *
      generalize pvO ls ⟨dx, dy, dz⟩ sq ni nj nk = PO at *
      generalize rtoa (Or.wid ls ⟨dx, dy, dz⟩) = TW at *
      generalize Or.prI (Or.least ls ⟨dx, dy, dz⟩) = pi at *
      generalize Or.prJ (Or.least ls ⟨dx, dy, dz⟩) = pj at *
      generalize Or.prK (Or.least ls ⟨dx, dy, dz⟩) = pk at *
      obtain ⟨rfl, rfl⟩ := Prod.mk.inj hv
      have HPE2 := Lib.hid hpe
      have HPP2 := Lib.hid hpp
      have HSU1 := Lib.hid (HSU.out ni nj hi hj)
      have HSU2 := Lib.hid (HSU.out pi pj hfl.1 hfl.2)
      have HSF2 := Lib.hid (HSF.out pi pj)
      have HLS2 := Lib.hid (HLS.out ni nk hi hk)
      have HDT2 := Lib.hid (HDT.out ni nj nk hi hj hk)
      have HQ12 := Lib.hid (HQ1.out ni nj hi hj)
      have HQ22 := Lib.hid (HQ2.out ni nj nk hi hj hk)
      have HSY2 := Lib.hid (HSY.out ni nj)
      have HSF1 := Lib.hid (HSF.out ni nj)
      have HI1 := Lib.hid hi
      have HI3 := Lib.hid hk
      have i0 : (0 : Int) ≤ (ni : Int) := by omega
      have i1 : (ni : Int) < (ls.length : Int) := by omega
      have k0 : (0 : Int) ≤ (nk : Int) := by omega
      have k1 : (nk : Int) < (ls.length : Int) := by omega
      clear hv hpe hpp hfl HPE HPP HFL HSU HSF HLS HDT HQ1 HQ2 HSY HSI hi hj hk
      obtain ⟨d0, d1, d2, -⟩ := HZ2.out.t
      go_wp2_with fail
      ((with_reducible refine (HUP.out _ HZ2.out.w).mono ?_); rintro e w3 ⟨rfl, hb3⟩)
      have HZ4 := Lib.hid ((HZ2.out.later hb3).later (below_al w3 (.cells (prC pi pj pk) 57)))
      have HF4 := Lib.hid (heap_alloc_new w3 (.cells (prC pi pj pk) 57))
      clear HZ2 hb3 d0 d1 d2 HUP
      go_upto_region 14 with fail
      generalize w3.alloc (.cells #[.int .i64 (pi : Int), .int .i64 (pj : Int), .int .i64 (pk : Int)] 57) = w4 at *
      generalize w3.heap.size = gf at *
      by_cases ht : TW = sq
      rotate_left
      · have y2 : (TW != sq) = true := bne_iff_ne.2 ht
        have y1 : (TW == sq) = false := beq_eq_false_iff_ne.2 ht
        have y3 : decide (TW = sq) = false := decide_eq_false ht
        have hB4 := HZ4.out.w
        clear HPE2 HPP2 HSU1 HSU2 HSF2 HLS2 HDT2 HQ12 HQ22 HSY2 HSF1
        go_wp2
        go_ret2
        refine ⟨?_, hB4⟩
        rw [y3]; rfl
      have HRV := Lib.hid (show (decide (TW = sq) && PO) = PP by rw [decide_eq_true ht, Bool.true_and]; exact (HPE2.out ht).symm)
      generalize (decide (TW = sq) && PO) = RV at *
      subst ht
      obtain rfl := HRV.out
      clear HPE2 HRV
      obtain ⟨d0, d1, d2, a0, a1, a2⟩ := HZ4.out.t
      cases hok : Or.okS ls ⟨dx, dy, dz⟩ ni nj with
      | false =>
        have hpp := HPP2.out.trans (if_pos (.inl hok))
        obtain ⟨s1, n1, hs1⟩ := HSF1.out
        rw [hok] at hs1
        generalize suppV ls ⟨dx, dy, dz⟩ ni nj = SV1 at *
        subst hs1
        obtain ⟨s2, n2, hs2⟩ := HSF2.out
        generalize Or.okS ls ⟨dx, dy, dz⟩ pi pj = ANY at *
        generalize suppV ls ⟨dx, dy, dz⟩ pi pj = SV2 at *
        subst hs2
        subst hpp
        obtain ⟨xi, xj, xf, xa⟩ := s1
        obtain ⟨n1x, n1y, n1z⟩ := n1
        obtain ⟨yi, yj, yf, ya⟩ := s2
        obtain ⟨n2x, n2y, n2z⟩ := n2
        have pe := fun W => ar3_eql (ni : Int) (nj : Int) (nk : Int) (pi : Int) (pj : Int) (pk : Int) W
        have HJK := Lib.hid (ijk ni nj nk pi pj pk)
        clear HPP2 HLS2 HDT2 HQ12 HQ22 HSY2 HSF1 HSF2 hok
        go_wp2_with fail
        ((with_reducible refine (HSU1.out _ HZ4.out.w).mono ?_); rintro e w5 ⟨rfl, hb5⟩)
        have hA := below_al w5 (.cells (supC ⟨xi, xj, xf, xa⟩ ⟨n1x, n1y, n1z⟩) 146)
        have HZ6 := Lib.hid ((HZ4.out.later hb5).later hA)
        have HF6 := Lib.hid (keepD (keepD HF4.out hb5) hA)
        clear HZ4 HF4 hb5 hA d0 d1 d2 a0 a1 a2 HSU1
        go_upto_region 17 with fail
        generalize w5.alloc (.cells (supC ⟨xi, xj, xf, xa⟩ ⟨n1x, n1y, n1z⟩) 146) = w6 at *
        generalize w5.heap.size = gs at *
        obtain ⟨d0, d1, d2, a0, a1, a2⟩ := HZ6.out.t
        obtain ⟨f0, f1, f2⟩ := c3row HF6.out
        go_wp2_with fail
        ((with_reducible refine (HSU2.out _ HZ6.out.w).mono ?_); rintro e w7 ⟨rfl, hb7⟩)
        have hA := below_al w7 (.cells (supC ⟨yi, yj, yf, ya⟩ ⟨n2x, n2y, n2z⟩) 146)
        have HZ8 := Lib.hid ((HZ6.out.later hb7).later hA)
        have HF8 := Lib.hid (keepD (keepD HF6.out hb7) hA)
        clear HZ6 HF6 hb7 hA d0 d1 d2 a0 a1 a2 f0 f1 f2 HSU2
        go_upto_region 19 with fail
        generalize w7.alloc (.cells (supC ⟨yi, yj, yf, ya⟩ ⟨n2x, n2y, n2z⟩) 146) = w8 at *
        generalize w7.heap.size = gs2 at *
        obtain ⟨d0, d1, d2, a0, a1, a2⟩ := HZ8.out.t
        obtain ⟨f0, f1, f2⟩ := c3row HF8.out
        have hB8 := HZ8.out.w
        cases ANY with
        | true =>
          go_wp2
          go_ret2
          exact ⟨rfl, hB8⟩
        | false =>
          go_wp2
          go_ret2
          refine ⟨?_, hB8⟩
          exact congrArg (fun b => Ending.returned (bint (b, 0))) HJK.out
      | true =>
        obtain hs1 := HSY2.out hok
        generalize hsp : Or.sup ls ⟨dx, dy, dz⟩ ni nj = s1 at *
        by_cases hij : nj ≤ ni
        · have hpp := HPP2.out.trans (if_pos (.inr hij))
          generalize nrm ls ⟨dx, dy, dz⟩ s1.i s1.j = n1 at *
          generalize suppV ls ⟨dx, dy, dz⟩ ni nj = SV1 at *
          subst hs1
          obtain ⟨s2, n2, hs2⟩ := HSF2.out
          generalize Or.okS ls ⟨dx, dy, dz⟩ pi pj = ANY at *
          generalize suppV ls ⟨dx, dy, dz⟩ pi pj = SV2 at *
          subst hs2
          subst hpp
          obtain ⟨xi, xj, xf, xa⟩ := s1
          obtain ⟨n1x, n1y, n1z⟩ := n1
          obtain ⟨yi, yj, yf, ya⟩ := s2
          obtain ⟨n2x, n2y, n2z⟩ := n2
          have pe := fun W => ar3_eql (ni : Int) (nj : Int) (nk : Int) (pi : Int) (pj : Int) (pk : Int) W
          have HJK := Lib.hid (ijk ni nj nk pi pj pk)
          have hij2 : (nj : Int) ≤ (ni : Int) := by omega
          clear HPP2 HLS2 HDT2 HQ12 HQ22 HSY2 HSF1 HSF2 hok hij hsp
          go_wp2_with fail
          ((with_reducible refine (HSU1.out _ HZ4.out.w).mono ?_); rintro e w5 ⟨rfl, hb5⟩)
          have hA := below_al w5 (.cells (supC ⟨xi, xj, xf, xa⟩ ⟨n1x, n1y, n1z⟩) 146)
          have HZ6 := Lib.hid ((HZ4.out.later hb5).later hA)
          have HF6 := Lib.hid (keepD (keepD HF4.out hb5) hA)
          clear HZ4 HF4 hb5 hA d0 d1 d2 a0 a1 a2 HSU1
          go_upto_region 17 with fail
          generalize w5.alloc (.cells (supC ⟨xi, xj, xf, xa⟩ ⟨n1x, n1y, n1z⟩) 146) = w6 at *
          generalize w5.heap.size = gs at *
          obtain ⟨d0, d1, d2, a0, a1, a2⟩ := HZ6.out.t
          obtain ⟨f0, f1, f2⟩ := c3row HF6.out
          go_wp2_with fail
          ((with_reducible refine (HSU2.out _ HZ6.out.w).mono ?_); rintro e w7 ⟨rfl, hb7⟩)
          have hA := below_al w7 (.cells (supC ⟨yi, yj, yf, ya⟩ ⟨n2x, n2y, n2z⟩) 146)
          have HZ8 := Lib.hid ((HZ6.out.later hb7).later hA)
          have HF8 := Lib.hid (keepD (keepD HF6.out hb7) hA)
          clear HZ6 HF6 hb7 hA d0 d1 d2 a0 a1 a2 f0 f1 f2 HSU2
          go_upto_region 19 with fail
          generalize w7.alloc (.cells (supC ⟨yi, yj, yf, ya⟩ ⟨n2x, n2y, n2z⟩) 146) = w8 at *
          generalize w7.heap.size = gs2 at *
          obtain ⟨d0, d1, d2, a0, a1, a2⟩ := HZ8.out.t
          obtain ⟨f0, f1, f2⟩ := c3row HF8.out
          have hB8 := HZ8.out.w
          cases ANY with
          | true =>
            go_wp2
            go_ret2
            exact ⟨rfl, hB8⟩
          | false =>
            go_wp2
            go_ret2
            refine ⟨?_, hB8⟩
            exact congrArg (fun b => Ending.returned (bint (b, 0))) HJK.out
        · have hpp := HPP2.out.trans (if_neg (by rw [hok]; simp; omega))
          have hnn : nrm ls ⟨dx, dy, dz⟩ s1.i s1.j = nrm ls ⟨dx, dy, dz⟩ ni nj := by
            obtain ⟨e1, e2⟩ := Or.sup_ij ls ⟨dx, dy, dz⟩ ni nj
            rw [← hsp, e1, e2]
          rw [hnn] at hs1
          have HQ13 := Lib.hid (HQ12.out hok)
          have HQ23 := Lib.hid (HQ22.out hok)
          generalize nrm ls ⟨dx, dy, dz⟩ ni nj = n1 at *
          generalize suppV ls ⟨dx, dy, dz⟩ ni nj = SV1 at *
          subst hs1
          generalize rtoa (Or.sv ls ⟨dx, dy, dz⟩ s1) = T1 at *
          generalize rtoa (hgQ ls ⟨dx, dy, dz⟩ ni nj nk) = T2 at *
          generalize hgtN ls ⟨dx, dy, dz⟩ ni nj nk = H at *
          generalize Or.sub (Or.at_ ls nk) (Or.at_ ls ni) = q at *
          have HPQ := Lib.hid hpp
          obtain ⟨xi, xj, xf, xa⟩ := s1
          obtain ⟨nx, ny, nz⟩ := n1
          obtain ⟨qx, qy, qz⟩ := q
          simp only at HQ13
          have hij2 : ¬ (nj : Int) ≤ (ni : Int) := by omega
          clear HPP2 HQ12 HQ22 HSY2 HSF1 HSF2 HSU2 hok hij hsp hnn hpp
          go_wp2_with fail
          ((with_reducible refine (HSU1.out _ HZ4.out.w).mono ?_); rintro e w5 ⟨rfl, hb5⟩)
          have hA := below_al w5 (.cells (supC ⟨xi, xj, xf, xa⟩ ⟨nx, ny, nz⟩) 146)
          have hB6 := (HZ4.out.later hb5).w.nx hA
          have hr0 : VsR w (w5.alloc (.cells (supC ⟨xi, xj, xf, xa⟩ ⟨nx, ny, nz⟩) 146)) w5.heap.size ⟨xi, xj, xf, xa⟩ ⟨nx, ny, nz⟩ ni nj nk b (off + ni * 3) (off + nk * 3) (Or.at_ ls ni) (Or.at_ ls nk) :=
            ⟨heap_alloc_new w5 _, keepD (HZ4.out.later hb5).a hA, HRR.out _ hB6 ni HI1.out, HRR.out _ hB6 nk HI3.out, hB6⟩
          clear HZ4 hb5 hA hB6 d0 d1 d2 a0 a1 a2 HSU1
          generalize Or.at_ ls ni = p at *
          generalize Or.at_ ls nk = r at *
          obtain ⟨px, py, pz⟩ := p
          obtain ⟨rx, ry, rz⟩ := r
          have HR0 := Lib.hid hr0
          clear hr0
          go_upto_region 17 with fail
          generalize w5.alloc (.cells (supC ⟨xi, xj, xf, xa⟩ ⟨nx, ny, nz⟩) 146) = w6 at *
          generalize w5.heap.size = gs at *
          obtain ⟨m0, m1, m2, m3, m4, m5, m6, m7, m8, m9, m10, m11, m12, -⟩ := HR0.out.t
          go_wp2_with fail
          go_region_held3 (fun w' => w'.cell? ⟨gs, 2, none⟩ = some (.int .i64 xf) ∧ w'.cell? ⟨gs, 4, none⟩ = some (.int .i64 nx) ∧ w'.cell? ⟨gs, 5, none⟩ = some (.int .i64 ny) ∧ w'.cell? ⟨gs, 6, none⟩ = some (.int .i64 nz) ∧ w'.cell? ⟨w.heap.size + 1, 0, none⟩ = some (.int .i64 (ni : Int)) ∧ w'.cell? ⟨w.heap.size + 1, 1, none⟩ = some (.int .i64 (nj : Int)) ∧ w'.cell? ⟨w.heap.size + 1, 2, none⟩ = some (.int .i64 (nk : Int)) ∧
              w'.cell? ⟨b, off + ni * 3, none⟩ = some (.int .i64 px) ∧ w'.cell? ⟨b, off + ni * 3 + 1, none⟩ = some (.int .i64 py) ∧ w'.cell? ⟨b, off + ni * 3 + 2, none⟩ = some (.int .i64 pz) ∧ w'.cell? ⟨b, off + nk * 3, none⟩ = some (.int .i64 rx) ∧ w'.cell? ⟨b, off + nk * 3 + 1, none⟩ = some (.int .i64 ry) ∧ w'.cell? ⟨b, off + nk * 3 + 2, none⟩ = some (.int .i64 rz) ∧
              VsR w w' gs ⟨xi, xj, xf, xa⟩ ⟨nx, ny, nz⟩ ni nj nk b (off + ni * 3) (off + nk * 3) ⟨px, py, pz⟩ ⟨rx, ry, rz⟩)
            (first | with_reducible exact (J2.later (below_al _ _)).t | with_reducible exact J2.t | with_reducible exact J1.t | with_reducible exact HR0.out.t | with_reducible exact HR0.out.drew.t)
            (first
              | (go_at_call 97; (with_reducible refine (HLS2.out _).mono ?_); rintro e w7 ⟨rfl, hb7⟩; (first | (with_reducible have J1 := HR0.out.drew.later hb7) | (with_reducible have J1 := HR0.out.later hb7)))
              | (go_at_call 92; (with_reducible refine (HDT2.out _).mono ?_); rintro e w8 ⟨rfl, hb8⟩; have J2 := J1.later hb8)
              | fail)
          all_goals
            have HTC := Lib.hid (two_cell w8 xf H 3)
            have HJ := Lib.hid (J2.later (below_al w8 (.cells #[.int .i64 xf, .int .i64 H] 3)))
            clear J1 J2 HR0 hb7 hb8 m0 m1 m2 m3 m4 m5 m6 m7 m8 m9 m10 m11 m12 HLS2 HDT2
            go_wp2_with fail
            generalize w8.alloc (.cells #[.int .i64 xf, .int .i64 H] 3) = w9 at *
            generalize w8.heap.size = gl at *
            go_loopw [118] (fun sk wr => ∃ m : Nat, sk = .int .i64 (m : Int) ∧ m ≤ 2 ∧ Hid (∀ (q : Nat) (hq : q < 2), q < m → [T1, T2][q] = TW) ∧ Hid (Below w9.heap.size w9 wr)) (fun sk _ => 2 - (intOf sk).toNat)
            case atStart => exact ⟨0, rfl, by omega, fun q _ h => absurd h (Nat.not_lt_zero q), Below.refl _ _⟩
            case round =>
              obtain ⟨m, rfl, hm, hall, hBw⟩ := hrel
              by_cases hlt : m < 2
              · have HJW := Lib.hid (HJ.out.later hBw.out)
                have hcl : ∀ W, Below w9.heap.size w9 W → W.cell? ⟨gl, m, none⟩ = some (.int .i64 [xf, H][m]) := fun W h => by
                  rw [h.cell (p := ⟨gl, m, none⟩) (World.block_lt_of_cell? w9 _ (HTC.out m hlt))]; exact HTC.out m hlt
                have c0 := hcl _ hBw.out
                have HSQ : Hid (∀ W, Below w.heap.size w W → Calls Tryz.prog 93 #[.int .i64 [xf, H][m], spV ⟨nx, ny, nz⟩] W (Ret W (ans2 ([T1, T2][m], 0)))) := by
                  match m, hlt with
                  | 0, _ => exact HQ13.out
                  | 1, _ => exact HQ23.out
                have HNX := Lib.hid (fun (h : [T1, T2][m] = TW) (q : Nat) (hq : q < 2) (h2 : q < m + 1) => (show [T1, T2][q] = TW by
                  by_cases e : q = m
                  · subst e; exact h
                  · exact hall.out q hq (by omega)))
                have HNO := Lib.hid (fun (h : ¬ [T1, T2][m] = TW) => (show (decide (T1 = TW) && decide (T2 = TW)) = false by
                  match m, hlt, h with
                  | 0, _, h => rw [decide_eq_false (show ¬ T1 = TW from h)]; rfl
                  | 1, _, h => rw [decide_eq_false (show ¬ T2 = TW from h)]; simp))
                generalize [xf, H][m] = xn at *
                generalize [T1, T2][m] = tn at *
                obtain ⟨-, m1, m2, m3, -⟩ := HJW.out.t
                have z2 : (m : Int) < 2 := by omega
                go_wp2_with fail
                ((with_reducible refine (HSQ.out _ HJW.out.w).mono ?_); rintro e wa ⟨rfl, hba⟩)
                have HBA := Lib.hid (hBw.out.nx hba)
                have HWA := Lib.hid (HJW.out.w.nx hba)
                clear hcl c0 m1 m2 m3 hba
                by_cases htt : tn = TW
                · have HN2 := Lib.hid (HNX.out htt)
                  subst htt
                  clear HNX HNO HSQ
                  go_wp2
                  go_roundw
                  case rel => exact ⟨m + 1, by go_num, by omega, HN2.out, HBA.out⟩
                  case measure => simp [intOf]; omega
                · have y2 : (tn != TW) = true := bne_iff_ne.2 htt
                  have y1 : (tn == TW) = false := beq_eq_false_iff_ne.2 htt
                  have hrv := HPQ.out.trans (HNO.out htt)
                  subst hrv
                  clear HNX HNO HSQ HPQ
                  go_wp2
                  go_ret2
                  exact ⟨rfl, HWA.out⟩
              · obtain rfl : m = 2 := by omega
                have h1 := hall.out 0 (by decide) (by decide)
                have h2 := hall.out 1 (by decide) (by decide)
                have hrv := HPQ.out
                rw [decide_eq_true (show T1 = TW from h1), decide_eq_true (show T2 = TW from h2)] at hrv
                subst hrv
                have HWA := Lib.hid (HJ.out.later hBw.out).w
                clear HPQ hall HTC
                go_wp2
                go_ret2
                exact ⟨rfl, HWA.out⟩
end Go.Proofs.Wk
