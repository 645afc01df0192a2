/- FITS: what the reference gives: deviations, limits, the check of a fit. -/
import Derived.Test.YtachiilmgnognaaFitF
namespace Go.Proofs.Wk
open Go.RowKit

theorem szE_ok {s : Int} (s0 : 1 ≤ s) (s1 : s ≤ 100000) : szE s = 0 := by unfold szE; rw [if_neg (by omega)]
theorem ckE_ok {l g : Int} (l0 : 0 ≤ l) (l1 : l ≤ 9) (g0 : 5 ≤ g) (g1 : g ≤ 12) : ckE l g = 0 := by unfold ckE; rw [if_neg (by omega), if_neg (by omega)]
theorem rSize_ok (s : Int) (w : World) (s0 : 1 ≤ s) (s1 : s ≤ 100000) : Calls Try.prog 20 #[.int .i64 s] w (Ret w (.int .i64 0)) := by
  have := Size_c s w; rwa [szE_ok s0 s1] at this
theorem rCheck_ok (h : Bool) (l g : Int) (w : World) (l0 : 0 ≤ l) (l1 : l ≤ 9) (g0 : 5 ≤ g) (g1 : g ≤ 12) : Calls Try.prog 21 #[.agg #[.bool h, .int .i64 l, .int .i64 g]] w (Ret w (.int .i64 0)) := by
  have := rCheck_c h l g w; rwa [ckE_ok l0 l1 g0 g1] at this
set_option maxRecDepth 100000 in
set_option maxHeartbeats 1000000 in
theorem Away_c (h : Bool) (s l g : Int) (w : World) (l0 : 0 ≤ l) (l1 : l ≤ 9) (g0 : 5 ≤ g) (g1 : g ≤ 12) : Calls Try.prog 35 #[.int .i64 s, .agg #[.bool h, .int .i64 l, .int .i64 g]] w (Ret w (lim (devz h s l g))) := by
  have H := Lib.hid (fun W => shaft_c s l g W l0 l1 g0 g1)
  obtain ⟨tb0, tb1⟩ := tol_bd (s := s) g0 g1
  obtain ⟨sb0, sb1⟩ := sha_bd (s := s) l0 l1
  have hd3 := dev3_bd (l := l) (show 0 ≤ tol s g by omega) tb1 sb0 sb1
  unfold devz
  generalize dev3 l (tol s g) (sha s l) = D at *
  obtain ⟨D1, D2⟩ := D
  simp only at hd3
  obtain ⟨⟨x0, x1⟩, x2, x3⟩ := hd3
  have y1 : IntKind.i64.wrap (-D1) = -D1 := IntWalk.i64_in _ (by omega)
  have y2 : IntKind.i64.wrap (-D2) = -D2 := IntWalk.i64_in _ (by omega)
  have J := LW.new w 41 h l g
  clear l0 l1 g0 g1 tb0 tb1 sb0 sb1 x0 x1 x2 x3
  cases h
  all_goals
    go_enter Try.func35, Try.ntmps35
    go_wp2_with fail
    ((with_reducible refine (H.out _).mono ?_); rintro e w1 ⟨rfl, hb1⟩)
    have J1 := (J.later hb1).alloc (.cells #[.int .i64 D1, .int .i64 D2] 27)
    obtain ⟨c0, -, -⟩ := J1.cc
    obtain ⟨k3, k4, k5, k6⟩ := J1.rc
    have J4 := J1.put D1 D2
    have J5 := J1.put (-D2) (-D1)
    clear J J1 hb1
    go_wp2
    first
    | (refine bodyPost_ret (results_cell_row rfl _ _ (w.heap.size + 1) 27 _ _ _ (by kernel_rfl) J4.r Try.underlying27 rfl (by kernel_rfl)) rfl ?_; exact ⟨rfl, J4.w⟩)
    | (refine bodyPost_ret (results_cell_row rfl _ _ (w.heap.size + 1) 27 _ _ _ (by kernel_rfl) J5.r Try.underlying27 rfl (by kernel_rfl)) rfl ?_; exact ⟨rfl, J5.w⟩)
set_option maxRecDepth 100000 in
theorem rDeviations_ok (h : Bool) (s l g : Int) (w : World) (s0 : 1 ≤ s) (s1 : s ≤ 100000) (l0 : 0 ≤ l) (l1 : l ≤ 9) (g0 : 5 ≤ g) (g1 : g ≤ 12) :
    Calls Try.prog 29 #[.int .i64 s, .agg #[.bool h, .int .i64 l, .int .i64 g]] w (Ret w (.tuple #[lim (devz h s l g), .int .i64 0])) := by
  have H1 := Lib.hid (fun W => rSize_ok s W s0 s1)
  have H2 := Lib.hid (fun W => rCheck_ok h l g W l0 l1 g0 g1)
  have H3 := Lib.hid (fun W => Away_c h s l g W l0 l1 g0 g1)
  have J := LW.new w 41 h l g
  clear s0 s1 l0 l1 g0 g1
  generalize devz h s l g = D at *
  obtain ⟨D1, D2⟩ := D
  go_enter Try.func29, Try.ntmps29
  go_wp2_with fail
  ((with_reducible refine (H1.out _).mono ?_); rintro e w1 ⟨rfl, hb1⟩)
  have J1 := J.later hb1
  obtain ⟨c0, c1, c2⟩ := J1.cc
  go_wp2_with fail
  ((with_reducible refine (H2.out _).mono ?_); rintro e w2 ⟨rfl, hb2⟩)
  have J2 := J1.later hb2
  clear c0 c1 c2
  obtain ⟨c0, c1, c2⟩ := J2.cc
  go_wp2_with fail
  ((with_reducible refine (H3.out _).mono ?_); rintro e w3 ⟨rfl, hb3⟩)
  have J3 := J2.later hb3
  obtain ⟨k3, k4, k5, k6⟩ := J3.rc
  have J4 := J3.put D1 D2
  go_wp2
  refine bodyPost_ret (results_cell_row_tmp rfl _ _ (w.heap.size + 1) 27 _ _ _ (by kernel_rfl) J4.r Try.underlying27 rfl (by kernel_rfl)) rfl ?_
  exact ⟨rfl, J4.w⟩
/-- The limits of a size, and the number of the error. -/
def lmE (h : Bool) (s l g : Int) : Int := if s + (devz h s l g).1 < 1 ∨ 100000 < s + (devz h s l g).2 then 2 else 0
def lmL (h : Bool) (s l g : Int) : Int × Int := if s + (devz h s l g).1 < 1 ∨ 100000 < s + (devz h s l g).2 then (0, 0) else (s + (devz h s l g).1, s + (devz h s l g).2)
set_option maxRecDepth 100000 in
set_option maxHeartbeats 1000000 in
theorem rLimits_c (h : Bool) (s l g : Int) (w : World) (s0 : 1 ≤ s) (s1 : s ≤ 100000) (l0 : 0 ≤ l) (l1 : l ≤ 9) (g0 : 5 ≤ g) (g1 : g ≤ 12) :
    Calls Try.prog 22 #[.int .i64 s, .agg #[.bool h, .int .i64 l, .int .i64 g]] w (Ret w (.tuple #[lim (lmL h s l g), .int .i64 (lmE h s l g)])) := by
  have H1 := Lib.hid (fun W => rDeviations_ok h s l g W s0 s1 l0 l1 g0 g1)
  have J := LW.new w 41 h l g
  obtain ⟨⟨d0, d1⟩, d2, d3⟩ := devz_bd (s := s) h l0 l1 g0 g1
  have key : ∀ b1 b2 : Bool, decide (s + (devz h s l g).1 < 1) = b1 → decide (100000 < s + (devz h s l g).2) = b2 → lmE h s l g = (if b1 || b2 then 2 else 0) ∧ lmL h s l g = (if b1 || b2 then (0, 0) else (s + (devz h s l g).1, s + (devz h s l g).2)) := by
    rintro b1 b2 rfl rfl; unfold lmE lmL; simp
  generalize devz h s l g = D at *
  obtain ⟨D1, D2⟩ := D
  simp only at d0 d1 d2 d3 key
  have w1 : IntKind.i64.wrap (s + D1) = s + D1 := IntWalk.i64_in _ (by omega)
  have w2 : IntKind.i64.wrap (s + D2) = s + D2 := IntWalk.i64_in _ (by omega)
  obtain ⟨L, q1⟩ : ∃ v, s + D1 = v := ⟨_, rfl⟩
  obtain ⟨M, q2⟩ : ∃ v, s + D2 = v := ⟨_, rfl⟩
  have j1 := w1.trans q1
  have j2 := w2.trans q2
  rw [q1, q2] at key
  obtain ⟨b1, e1⟩ : ∃ b, decide (L < 1) = b := ⟨_, rfl⟩
  obtain ⟨b2, e2⟩ : ∃ b, decide (100000 < M) = b := ⟨_, rfl⟩
  obtain ⟨E1, E2⟩ := key b1 b2 e1 e2
  rw [E1, E2]
  clear key E1 E2 w1 w2 q1 q2 s0 s1 l0 l1 g0 g1 d0 d1 d2 d3
  cases b1 <;> cases b2
  all_goals
    simp only [Bool.or_true, Bool.or_false, if_true, Bool.false_eq_true, if_false]
    go_enter Try.func22, Try.ntmps22
    go_wp2_with fail
    ((with_reducible refine (H1.out _).mono ?_); rintro e w1 ⟨rfl, hb1⟩)
    have J1 := J.later hb1
    have J2 := J1.alloc (.cells #[.int .i64 L, .int .i64 M] 27)
    obtain ⟨k3, k4, k5, k6⟩ := J2.rc
    have J4 := J2.put L M
    have J5 := J2.put 0 0
    clear J J1 J2
    go_wp2
    first
    | (refine bodyPost_ret (results_cell_row_tmp rfl _ _ (w.heap.size + 1) 27 _ _ _ (by kernel_rfl) J4.r Try.underlying27 rfl (by kernel_rfl)) rfl ?_; exact ⟨rfl, J4.w⟩)
    | (refine bodyPost_ret (results_cell_row_tmp rfl _ _ (w.heap.size + 1) 27 _ _ _ (by kernel_rfl) J5.r Try.underlying27 rfl (by kernel_rfl)) rfl ?_; exact ⟨rfl, J5.w⟩)
/-- The number of the error of a fit. -/
def fitE (s gh l gs : Int) : Int := if szE s ≠ 0 then szE s else if ckE 4 gh ≠ 0 then ckE 4 gh else if ckE l gs ≠ 0 then ckE l gs else if lmE true s 4 gh ≠ 0 then lmE true s 4 gh else lmE false s l gs
theorem szE_in {s : Int} (h : szE s = 0) : 1 ≤ s ∧ s ≤ 100000 := by unfold szE at h; split at h <;> omega
theorem ckE_in {l g : Int} (h : ckE l g = 0) : (0 ≤ l ∧ l ≤ 9) ∧ 5 ≤ g ∧ g ≤ 12 := by
  unfold ckE at h; split at h
  · omega
  split at h <;> omega
theorem lmE_in {h : Bool} {s l g : Int} (e : lmE h s l g = 0) : 1 ≤ s + (devz h s l g).1 ∧ s + (devz h s l g).2 ≤ 100000 := by unfold lmE at e; split at e <;> omega
theorem fitE_ok {s gh l gs : Int} (h : fitE s gh l gs = 0) : FitOK s 4 gh l gs := by
  unfold fitE at h
  split at h
  · contradiction
  · split at h
    · contradiction
    · split at h
      · contradiction
      · split at h
        · contradiction
        · rename_i h1 h2 h3 h4
          obtain ⟨s0, s1⟩ := szE_in (Decidable.not_not.1 h1)
          obtain ⟨⟨a0, a1⟩, b0, b1⟩ := ckE_in (Decidable.not_not.1 h2)
          obtain ⟨⟨c0, c1⟩, d0, d1⟩ := ckE_in (Decidable.not_not.1 h3)
          obtain ⟨m0, m1⟩ := lmE_in (Decidable.not_not.1 h4)
          obtain ⟨n0, n1⟩ := lmE_in h
          exact ⟨s0, s1, a0, a1, b0, b1, c0, c1, d0, d1, m0, m1, n0, n1⟩
/-- A box, and what was there before. -/
structure BX (w0 : World) (b : Nat) (r1 : Array Value) (t1 : TypeId) (w : World) : Prop where
  c : w.heap[b]? = some (.cells r1 t1 (0, 0))
  w : Below w0.heap.size w0 w
theorem BX.later {w0 : World} {b : Nat} {r1 : Array Value} {t1 : TypeId} {w w' : World} (j : BX w0 b r1 t1 w) (hb : Below w.heap.size w w') : BX w0 b r1 t1 w' :=
  ⟨by rw [hb.block b (Array.getElem?_eq_some_iff.1 j.c).1]; exact j.c, j.w.trans (hb.mono j.w.size)⟩
theorem BX.alloc {w0 : World} {b : Nat} {r1 : Array Value} {t1 : TypeId} {w : World} (j : BX w0 b r1 t1 w) (o : Obj) : BX w0 b r1 t1 (w.alloc o) := j.later ((Below.refl _ _).alloc (Nat.le_refl _) o)
theorem BX.new (w0 : World) (r1 : Array Value) (t1 : TypeId) : BX w0 w0.heap.size r1 t1 (w0.alloc (.cells r1 t1)) := ⟨heap_alloc_new _ _, (Below.refl _ _).alloc (Nat.le_refl _) _⟩
set_option maxRecDepth 100000 in
set_option maxHeartbeats 2000000 in
theorem refCheck_c (s gh l gs : Int) (w : World) : Calls Try.prog 11 #[fitV s 4 gh l gs] w (Ret w (.int .i64 (fitE s gh l gs))) := by
  have JN := BX.new w #[.int .i64 s, .bool true, .int .i64 4, .int .i64 gh, .bool false, .int .i64 l, .int .i64 gs] 43
  have H1 := Lib.hid (fun W => Size_c s W)
  have H2 := Lib.hid (fun W => rCheck_c true 4 gh W)
  have H3 := Lib.hid (fun W => rCheck_c false l gs W)
  have H4 := Lib.hid (fun (W : World) (a : szE s = 0) (b : ckE 4 gh = 0) => rLimits_c true s 4 gh W (szE_in a).1 (szE_in a).2 (ckE_in b).1.1 (ckE_in b).1.2 (ckE_in b).2.1 (ckE_in b).2.2)
  have H5 := Lib.hid (fun (W : World) (a : szE s = 0) (b : ckE l gs = 0) => rLimits_c false s l gs W (szE_in a).1 (szE_in a).2 (ckE_in b).1.1 (ckE_in b).1.2 (ckE_in b).2.1 (ckE_in b).2.2)
  unfold fitE
  generalize szE s = e1 at *
  generalize ckE 4 gh = e2 at *
  generalize ckE l gs = e3 at *
  generalize lmE true s 4 gh = e4 at *
  generalize lmE false s l gs = e5 at *
  generalize lmL true s 4 gh = L1 at *
  generalize lmL false s l gs = L2 at *
  by_cases z1 : e1 = 0
  rotate_left
  · rw [if_pos z1]
    have y1 : (e1 != 0) = true := bne_iff_ne.2 z1
    clear z1
    go_enter Try.func11, Try.ntmps11
    go_wp2_with fail
    ((with_reducible refine (H1.out _).mono ?_); rintro e w1 ⟨rfl, hb1⟩)
    go_wp2
    go_ret
    exact ⟨rfl, (JN.later hb1).w⟩
  rw [if_neg (Decidable.not_not.2 z1)]
  have H4a := Lib.hid (fun W => H4.out W z1)
  have H5a := Lib.hid (fun W => H5.out W z1)
  clear H4 H5
  subst z1
  by_cases z2 : e2 = 0
  rotate_left
  · rw [if_pos z2]
    have y1 : (e2 != 0) = true := bne_iff_ne.2 z2
    clear z2
    go_enter Try.func11, Try.ntmps11
    go_wp2_with fail
    ((with_reducible refine (H1.out _).mono ?_); rintro e w1 ⟨rfl, hb1⟩)
    have J1 := JN.later hb1
    have c0 : w1.cell? ⟨w.heap.size, 0, none⟩ = some (.int .i64 s) := by rw [cell_of_row _ _ _ _ _ _ J1.c]; rfl
    have c1 : w1.cell? ⟨w.heap.size, 1, none⟩ = some (.bool true) := by rw [cell_of_row _ _ _ _ _ _ J1.c]; rfl
    have c2 : w1.cell? ⟨w.heap.size, 2, none⟩ = some (.int .i64 4) := by rw [cell_of_row _ _ _ _ _ _ J1.c]; rfl
    have c3 : w1.cell? ⟨w.heap.size, 3, none⟩ = some (.int .i64 gh) := by rw [cell_of_row _ _ _ _ _ _ J1.c]; rfl
    have c4 : w1.cell? ⟨w.heap.size, 4, none⟩ = some (.bool false) := by rw [cell_of_row _ _ _ _ _ _ J1.c]; rfl
    have c5 : w1.cell? ⟨w.heap.size, 5, none⟩ = some (.int .i64 l) := by rw [cell_of_row _ _ _ _ _ _ J1.c]; rfl
    have c6 : w1.cell? ⟨w.heap.size, 6, none⟩ = some (.int .i64 gs) := by rw [cell_of_row _ _ _ _ _ _ J1.c]; rfl
    go_wp2_with fail
    ((with_reducible refine (H2.out _).mono ?_); rintro e w2 ⟨rfl, hb2⟩)
    have J2 := J1.later hb2
    clear c0 c1 c2 c3 c4 c5 c6
    have c0 : w2.cell? ⟨w.heap.size, 0, none⟩ = some (.int .i64 s) := by rw [cell_of_row _ _ _ _ _ _ J2.c]; rfl
    have c1 : w2.cell? ⟨w.heap.size, 1, none⟩ = some (.bool true) := by rw [cell_of_row _ _ _ _ _ _ J2.c]; rfl
    have c2 : w2.cell? ⟨w.heap.size, 2, none⟩ = some (.int .i64 4) := by rw [cell_of_row _ _ _ _ _ _ J2.c]; rfl
    have c3 : w2.cell? ⟨w.heap.size, 3, none⟩ = some (.int .i64 gh) := by rw [cell_of_row _ _ _ _ _ _ J2.c]; rfl
    have c4 : w2.cell? ⟨w.heap.size, 4, none⟩ = some (.bool false) := by rw [cell_of_row _ _ _ _ _ _ J2.c]; rfl
    have c5 : w2.cell? ⟨w.heap.size, 5, none⟩ = some (.int .i64 l) := by rw [cell_of_row _ _ _ _ _ _ J2.c]; rfl
    have c6 : w2.cell? ⟨w.heap.size, 6, none⟩ = some (.int .i64 gs) := by rw [cell_of_row _ _ _ _ _ _ J2.c]; rfl
    go_wp2
    go_ret
    exact ⟨rfl, J2.w⟩
  rw [if_neg (Decidable.not_not.2 z2)]
  have H4b := Lib.hid (fun W => H4a.out W z2)
  clear H4a
  subst z2
  by_cases z3 : e3 = 0
  rotate_left
  · rw [if_pos z3]
    have y1 : (e3 != 0) = true := bne_iff_ne.2 z3
    clear z3
    go_enter Try.func11, Try.ntmps11
    go_wp2_with fail
    ((with_reducible refine (H1.out _).mono ?_); rintro e w1 ⟨rfl, hb1⟩)
    have J1 := JN.later hb1
    have c0 : w1.cell? ⟨w.heap.size, 0, none⟩ = some (.int .i64 s) := by rw [cell_of_row _ _ _ _ _ _ J1.c]; rfl
    have c1 : w1.cell? ⟨w.heap.size, 1, none⟩ = some (.bool true) := by rw [cell_of_row _ _ _ _ _ _ J1.c]; rfl
    have c2 : w1.cell? ⟨w.heap.size, 2, none⟩ = some (.int .i64 4) := by rw [cell_of_row _ _ _ _ _ _ J1.c]; rfl
    have c3 : w1.cell? ⟨w.heap.size, 3, none⟩ = some (.int .i64 gh) := by rw [cell_of_row _ _ _ _ _ _ J1.c]; rfl
    have c4 : w1.cell? ⟨w.heap.size, 4, none⟩ = some (.bool false) := by rw [cell_of_row _ _ _ _ _ _ J1.c]; rfl
    have c5 : w1.cell? ⟨w.heap.size, 5, none⟩ = some (.int .i64 l) := by rw [cell_of_row _ _ _ _ _ _ J1.c]; rfl
    have c6 : w1.cell? ⟨w.heap.size, 6, none⟩ = some (.int .i64 gs) := by rw [cell_of_row _ _ _ _ _ _ J1.c]; rfl
    go_wp2_with fail
    ((with_reducible refine (H2.out _).mono ?_); rintro e w2 ⟨rfl, hb2⟩)
    have J2 := J1.later hb2
    clear c0 c1 c2 c3 c4 c5 c6
    have c0 : w2.cell? ⟨w.heap.size, 0, none⟩ = some (.int .i64 s) := by rw [cell_of_row _ _ _ _ _ _ J2.c]; rfl
    have c1 : w2.cell? ⟨w.heap.size, 1, none⟩ = some (.bool true) := by rw [cell_of_row _ _ _ _ _ _ J2.c]; rfl
    have c2 : w2.cell? ⟨w.heap.size, 2, none⟩ = some (.int .i64 4) := by rw [cell_of_row _ _ _ _ _ _ J2.c]; rfl
    have c3 : w2.cell? ⟨w.heap.size, 3, none⟩ = some (.int .i64 gh) := by rw [cell_of_row _ _ _ _ _ _ J2.c]; rfl
    have c4 : w2.cell? ⟨w.heap.size, 4, none⟩ = some (.bool false) := by rw [cell_of_row _ _ _ _ _ _ J2.c]; rfl
    have c5 : w2.cell? ⟨w.heap.size, 5, none⟩ = some (.int .i64 l) := by rw [cell_of_row _ _ _ _ _ _ J2.c]; rfl
    have c6 : w2.cell? ⟨w.heap.size, 6, none⟩ = some (.int .i64 gs) := by rw [cell_of_row _ _ _ _ _ _ J2.c]; rfl
    go_wp2_with fail
    ((with_reducible refine (H3.out _).mono ?_); rintro e w3 ⟨rfl, hb3⟩)
    have J3 := J2.later hb3
    clear c0 c1 c2 c3 c4 c5 c6
    have c0 : w3.cell? ⟨w.heap.size, 0, none⟩ = some (.int .i64 s) := by rw [cell_of_row _ _ _ _ _ _ J3.c]; rfl
    have c1 : w3.cell? ⟨w.heap.size, 1, none⟩ = some (.bool true) := by rw [cell_of_row _ _ _ _ _ _ J3.c]; rfl
    have c2 : w3.cell? ⟨w.heap.size, 2, none⟩ = some (.int .i64 4) := by rw [cell_of_row _ _ _ _ _ _ J3.c]; rfl
    have c3 : w3.cell? ⟨w.heap.size, 3, none⟩ = some (.int .i64 gh) := by rw [cell_of_row _ _ _ _ _ _ J3.c]; rfl
    have c4 : w3.cell? ⟨w.heap.size, 4, none⟩ = some (.bool false) := by rw [cell_of_row _ _ _ _ _ _ J3.c]; rfl
    have c5 : w3.cell? ⟨w.heap.size, 5, none⟩ = some (.int .i64 l) := by rw [cell_of_row _ _ _ _ _ _ J3.c]; rfl
    have c6 : w3.cell? ⟨w.heap.size, 6, none⟩ = some (.int .i64 gs) := by rw [cell_of_row _ _ _ _ _ _ J3.c]; rfl
    go_wp2
    go_ret
    exact ⟨rfl, J3.w⟩
  rw [if_neg (Decidable.not_not.2 z3)]
  have H5b := Lib.hid (fun W => H5a.out W z3)
  clear H5a
  subst z3
  by_cases z4 : e4 = 0
  rotate_left
  · rw [if_pos z4]
    have y1 : (e4 != 0) = true := bne_iff_ne.2 z4
    clear z4
    go_enter Try.func11, Try.ntmps11
    go_wp2_with fail
    ((with_reducible refine (H1.out _).mono ?_); rintro e w1 ⟨rfl, hb1⟩)
    have J1 := JN.later hb1
    have c0 : w1.cell? ⟨w.heap.size, 0, none⟩ = some (.int .i64 s) := by rw [cell_of_row _ _ _ _ _ _ J1.c]; rfl
    have c1 : w1.cell? ⟨w.heap.size, 1, none⟩ = some (.bool true) := by rw [cell_of_row _ _ _ _ _ _ J1.c]; rfl
    have c2 : w1.cell? ⟨w.heap.size, 2, none⟩ = some (.int .i64 4) := by rw [cell_of_row _ _ _ _ _ _ J1.c]; rfl
    have c3 : w1.cell? ⟨w.heap.size, 3, none⟩ = some (.int .i64 gh) := by rw [cell_of_row _ _ _ _ _ _ J1.c]; rfl
    have c4 : w1.cell? ⟨w.heap.size, 4, none⟩ = some (.bool false) := by rw [cell_of_row _ _ _ _ _ _ J1.c]; rfl
    have c5 : w1.cell? ⟨w.heap.size, 5, none⟩ = some (.int .i64 l) := by rw [cell_of_row _ _ _ _ _ _ J1.c]; rfl
    have c6 : w1.cell? ⟨w.heap.size, 6, none⟩ = some (.int .i64 gs) := by rw [cell_of_row _ _ _ _ _ _ J1.c]; rfl
    go_wp2_with fail
    ((with_reducible refine (H2.out _).mono ?_); rintro e w2 ⟨rfl, hb2⟩)
    have J2 := J1.later hb2
    clear c0 c1 c2 c3 c4 c5 c6
    have c0 : w2.cell? ⟨w.heap.size, 0, none⟩ = some (.int .i64 s) := by rw [cell_of_row _ _ _ _ _ _ J2.c]; rfl
    have c1 : w2.cell? ⟨w.heap.size, 1, none⟩ = some (.bool true) := by rw [cell_of_row _ _ _ _ _ _ J2.c]; rfl
    have c2 : w2.cell? ⟨w.heap.size, 2, none⟩ = some (.int .i64 4) := by rw [cell_of_row _ _ _ _ _ _ J2.c]; rfl
    have c3 : w2.cell? ⟨w.heap.size, 3, none⟩ = some (.int .i64 gh) := by rw [cell_of_row _ _ _ _ _ _ J2.c]; rfl
    have c4 : w2.cell? ⟨w.heap.size, 4, none⟩ = some (.bool false) := by rw [cell_of_row _ _ _ _ _ _ J2.c]; rfl
    have c5 : w2.cell? ⟨w.heap.size, 5, none⟩ = some (.int .i64 l) := by rw [cell_of_row _ _ _ _ _ _ J2.c]; rfl
    have c6 : w2.cell? ⟨w.heap.size, 6, none⟩ = some (.int .i64 gs) := by rw [cell_of_row _ _ _ _ _ _ J2.c]; rfl
    go_wp2_with fail
    ((with_reducible refine (H3.out _).mono ?_); rintro e w3 ⟨rfl, hb3⟩)
    have J3 := J2.later hb3
    clear c0 c1 c2 c3 c4 c5 c6
    have c0 : w3.cell? ⟨w.heap.size, 0, none⟩ = some (.int .i64 s) := by rw [cell_of_row _ _ _ _ _ _ J3.c]; rfl
    have c1 : w3.cell? ⟨w.heap.size, 1, none⟩ = some (.bool true) := by rw [cell_of_row _ _ _ _ _ _ J3.c]; rfl
    have c2 : w3.cell? ⟨w.heap.size, 2, none⟩ = some (.int .i64 4) := by rw [cell_of_row _ _ _ _ _ _ J3.c]; rfl
    have c3 : w3.cell? ⟨w.heap.size, 3, none⟩ = some (.int .i64 gh) := by rw [cell_of_row _ _ _ _ _ _ J3.c]; rfl
    have c4 : w3.cell? ⟨w.heap.size, 4, none⟩ = some (.bool false) := by rw [cell_of_row _ _ _ _ _ _ J3.c]; rfl
    have c5 : w3.cell? ⟨w.heap.size, 5, none⟩ = some (.int .i64 l) := by rw [cell_of_row _ _ _ _ _ _ J3.c]; rfl
    have c6 : w3.cell? ⟨w.heap.size, 6, none⟩ = some (.int .i64 gs) := by rw [cell_of_row _ _ _ _ _ _ J3.c]; rfl
    go_wp2_with fail
    ((with_reducible refine (H4b.out _).mono ?_); rintro e w4 ⟨rfl, hb4⟩)
    have J4 := (J3.later hb4).alloc (.cells #[.int .i64 L1.1, .int .i64 L1.2] 27)
    clear c0 c1 c2 c3 c4 c5 c6
    have c0 : (w4.alloc (.cells #[.int .i64 L1.1, .int .i64 L1.2] 27)).cell? ⟨w.heap.size, 0, none⟩ = some (.int .i64 s) := by rw [cell_of_row _ _ _ _ _ _ J4.c]; rfl
    have c1 : (w4.alloc (.cells #[.int .i64 L1.1, .int .i64 L1.2] 27)).cell? ⟨w.heap.size, 1, none⟩ = some (.bool true) := by rw [cell_of_row _ _ _ _ _ _ J4.c]; rfl
    have c2 : (w4.alloc (.cells #[.int .i64 L1.1, .int .i64 L1.2] 27)).cell? ⟨w.heap.size, 2, none⟩ = some (.int .i64 4) := by rw [cell_of_row _ _ _ _ _ _ J4.c]; rfl
    have c3 : (w4.alloc (.cells #[.int .i64 L1.1, .int .i64 L1.2] 27)).cell? ⟨w.heap.size, 3, none⟩ = some (.int .i64 gh) := by rw [cell_of_row _ _ _ _ _ _ J4.c]; rfl
    have c4 : (w4.alloc (.cells #[.int .i64 L1.1, .int .i64 L1.2] 27)).cell? ⟨w.heap.size, 4, none⟩ = some (.bool false) := by rw [cell_of_row _ _ _ _ _ _ J4.c]; rfl
    have c5 : (w4.alloc (.cells #[.int .i64 L1.1, .int .i64 L1.2] 27)).cell? ⟨w.heap.size, 5, none⟩ = some (.int .i64 l) := by rw [cell_of_row _ _ _ _ _ _ J4.c]; rfl
    have c6 : (w4.alloc (.cells #[.int .i64 L1.1, .int .i64 L1.2] 27)).cell? ⟨w.heap.size, 6, none⟩ = some (.int .i64 gs) := by rw [cell_of_row _ _ _ _ _ _ J4.c]; rfl
    go_wp2
    go_ret
    exact ⟨rfl, J4.w⟩
  rw [if_neg (Decidable.not_not.2 z4)]
  subst z4
  go_enter Try.func11, Try.ntmps11
  go_wp2_with fail
  ((with_reducible refine (H1.out _).mono ?_); rintro e w1 ⟨rfl, hb1⟩)
  have J1 := JN.later hb1
  have c0 : w1.cell? ⟨w.heap.size, 0, none⟩ = some (.int .i64 s) := by rw [cell_of_row _ _ _ _ _ _ J1.c]; rfl
  have c1 : w1.cell? ⟨w.heap.size, 1, none⟩ = some (.bool true) := by rw [cell_of_row _ _ _ _ _ _ J1.c]; rfl
  have c2 : w1.cell? ⟨w.heap.size, 2, none⟩ = some (.int .i64 4) := by rw [cell_of_row _ _ _ _ _ _ J1.c]; rfl
  have c3 : w1.cell? ⟨w.heap.size, 3, none⟩ = some (.int .i64 gh) := by rw [cell_of_row _ _ _ _ _ _ J1.c]; rfl
  have c4 : w1.cell? ⟨w.heap.size, 4, none⟩ = some (.bool false) := by rw [cell_of_row _ _ _ _ _ _ J1.c]; rfl
  have c5 : w1.cell? ⟨w.heap.size, 5, none⟩ = some (.int .i64 l) := by rw [cell_of_row _ _ _ _ _ _ J1.c]; rfl
  have c6 : w1.cell? ⟨w.heap.size, 6, none⟩ = some (.int .i64 gs) := by rw [cell_of_row _ _ _ _ _ _ J1.c]; rfl
  go_wp2_with fail
  ((with_reducible refine (H2.out _).mono ?_); rintro e w2 ⟨rfl, hb2⟩)
  have J2 := J1.later hb2
  clear c0 c1 c2 c3 c4 c5 c6
  have c0 : w2.cell? ⟨w.heap.size, 0, none⟩ = some (.int .i64 s) := by rw [cell_of_row _ _ _ _ _ _ J2.c]; rfl
  have c1 : w2.cell? ⟨w.heap.size, 1, none⟩ = some (.bool true) := by rw [cell_of_row _ _ _ _ _ _ J2.c]; rfl
  have c2 : w2.cell? ⟨w.heap.size, 2, none⟩ = some (.int .i64 4) := by rw [cell_of_row _ _ _ _ _ _ J2.c]; rfl
  have c3 : w2.cell? ⟨w.heap.size, 3, none⟩ = some (.int .i64 gh) := by rw [cell_of_row _ _ _ _ _ _ J2.c]; rfl
  have c4 : w2.cell? ⟨w.heap.size, 4, none⟩ = some (.bool false) := by rw [cell_of_row _ _ _ _ _ _ J2.c]; rfl
  have c5 : w2.cell? ⟨w.heap.size, 5, none⟩ = some (.int .i64 l) := by rw [cell_of_row _ _ _ _ _ _ J2.c]; rfl
  have c6 : w2.cell? ⟨w.heap.size, 6, none⟩ = some (.int .i64 gs) := by rw [cell_of_row _ _ _ _ _ _ J2.c]; rfl
  go_wp2_with fail
  ((with_reducible refine (H3.out _).mono ?_); rintro e w3 ⟨rfl, hb3⟩)
  have J3 := J2.later hb3
  clear c0 c1 c2 c3 c4 c5 c6
  have c0 : w3.cell? ⟨w.heap.size, 0, none⟩ = some (.int .i64 s) := by rw [cell_of_row _ _ _ _ _ _ J3.c]; rfl
  have c1 : w3.cell? ⟨w.heap.size, 1, none⟩ = some (.bool true) := by rw [cell_of_row _ _ _ _ _ _ J3.c]; rfl
  have c2 : w3.cell? ⟨w.heap.size, 2, none⟩ = some (.int .i64 4) := by rw [cell_of_row _ _ _ _ _ _ J3.c]; rfl
  have c3 : w3.cell? ⟨w.heap.size, 3, none⟩ = some (.int .i64 gh) := by rw [cell_of_row _ _ _ _ _ _ J3.c]; rfl
  have c4 : w3.cell? ⟨w.heap.size, 4, none⟩ = some (.bool false) := by rw [cell_of_row _ _ _ _ _ _ J3.c]; rfl
  have c5 : w3.cell? ⟨w.heap.size, 5, none⟩ = some (.int .i64 l) := by rw [cell_of_row _ _ _ _ _ _ J3.c]; rfl
  have c6 : w3.cell? ⟨w.heap.size, 6, none⟩ = some (.int .i64 gs) := by rw [cell_of_row _ _ _ _ _ _ J3.c]; rfl
  go_wp2_with fail
  ((with_reducible refine (H4b.out _).mono ?_); rintro e w4 ⟨rfl, hb4⟩)
  have J4 := (J3.later hb4).alloc (.cells #[.int .i64 L1.1, .int .i64 L1.2] 27)
  clear c0 c1 c2 c3 c4 c5 c6
  have c0 : (w4.alloc (.cells #[.int .i64 L1.1, .int .i64 L1.2] 27)).cell? ⟨w.heap.size, 0, none⟩ = some (.int .i64 s) := by rw [cell_of_row _ _ _ _ _ _ J4.c]; rfl
  have c1 : (w4.alloc (.cells #[.int .i64 L1.1, .int .i64 L1.2] 27)).cell? ⟨w.heap.size, 1, none⟩ = some (.bool true) := by rw [cell_of_row _ _ _ _ _ _ J4.c]; rfl
  have c2 : (w4.alloc (.cells #[.int .i64 L1.1, .int .i64 L1.2] 27)).cell? ⟨w.heap.size, 2, none⟩ = some (.int .i64 4) := by rw [cell_of_row _ _ _ _ _ _ J4.c]; rfl
  have c3 : (w4.alloc (.cells #[.int .i64 L1.1, .int .i64 L1.2] 27)).cell? ⟨w.heap.size, 3, none⟩ = some (.int .i64 gh) := by rw [cell_of_row _ _ _ _ _ _ J4.c]; rfl
  have c4 : (w4.alloc (.cells #[.int .i64 L1.1, .int .i64 L1.2] 27)).cell? ⟨w.heap.size, 4, none⟩ = some (.bool false) := by rw [cell_of_row _ _ _ _ _ _ J4.c]; rfl
  have c5 : (w4.alloc (.cells #[.int .i64 L1.1, .int .i64 L1.2] 27)).cell? ⟨w.heap.size, 5, none⟩ = some (.int .i64 l) := by rw [cell_of_row _ _ _ _ _ _ J4.c]; rfl
  have c6 : (w4.alloc (.cells #[.int .i64 L1.1, .int .i64 L1.2] 27)).cell? ⟨w.heap.size, 6, none⟩ = some (.int .i64 gs) := by rw [cell_of_row _ _ _ _ _ _ J4.c]; rfl
  go_wp2_with fail
  ((with_reducible refine (H5b.out _).mono ?_); rintro e w5 ⟨rfl, hb5⟩)
  have J5 := (J4.later hb5).alloc (.cells #[.int .i64 L2.1, .int .i64 L2.2] 27)
  clear c0 c1 c2 c3 c4 c5 c6
  have c0 : (w5.alloc (.cells #[.int .i64 L2.1, .int .i64 L2.2] 27)).cell? ⟨w.heap.size, 0, none⟩ = some (.int .i64 s) := by rw [cell_of_row _ _ _ _ _ _ J5.c]; rfl
  have c1 : (w5.alloc (.cells #[.int .i64 L2.1, .int .i64 L2.2] 27)).cell? ⟨w.heap.size, 1, none⟩ = some (.bool true) := by rw [cell_of_row _ _ _ _ _ _ J5.c]; rfl
  have c2 : (w5.alloc (.cells #[.int .i64 L2.1, .int .i64 L2.2] 27)).cell? ⟨w.heap.size, 2, none⟩ = some (.int .i64 4) := by rw [cell_of_row _ _ _ _ _ _ J5.c]; rfl
  have c3 : (w5.alloc (.cells #[.int .i64 L2.1, .int .i64 L2.2] 27)).cell? ⟨w.heap.size, 3, none⟩ = some (.int .i64 gh) := by rw [cell_of_row _ _ _ _ _ _ J5.c]; rfl
  have c4 : (w5.alloc (.cells #[.int .i64 L2.1, .int .i64 L2.2] 27)).cell? ⟨w.heap.size, 4, none⟩ = some (.bool false) := by rw [cell_of_row _ _ _ _ _ _ J5.c]; rfl
  have c5 : (w5.alloc (.cells #[.int .i64 L2.1, .int .i64 L2.2] 27)).cell? ⟨w.heap.size, 5, none⟩ = some (.int .i64 l) := by rw [cell_of_row _ _ _ _ _ _ J5.c]; rfl
  have c6 : (w5.alloc (.cells #[.int .i64 L2.1, .int .i64 L2.2] 27)).cell? ⟨w.heap.size, 6, none⟩ = some (.int .i64 gs) := by rw [cell_of_row _ _ _ _ _ _ J5.c]; rfl
  go_wp2
  go_ret
  exact ⟨rfl, J5.w⟩
end Go.Proofs.Wk
