/- FITS: what the program gives for right fits. -/
import Derived.Test.YtachiilmgnognaaFitD
namespace Go.Proofs.Wk
open Go.RowKit

/-- Two blocks, and what was there before. -/
structure FW (w0 : World) (b : Nat) (r1 : Array Value) (t1 : TypeId) (r2 : Array Value) (t2 : TypeId) (w : World) : Prop where
  c : w.heap[b]? = some (.cells r1 t1 (0, 0))
  r : w.heap[b + 1]? = some (.cells r2 t2 (0, 0))
  w : Below w0.heap.size w0 w
  s : w0.heap.size ≤ b
theorem FW.later {w0 : World} {b : Nat} {r1 r2 : Array Value} {t1 t2 : TypeId} {w w' : World} (j : FW w0 b r1 t1 r2 t2 w) (hb : Below w.heap.size w w') : FW w0 b r1 t1 r2 t2 w' :=
  ⟨by rw [hb.block b (Array.getElem?_eq_some_iff.1 j.c).1]; exact j.c, by rw [hb.block (b + 1) (Array.getElem?_eq_some_iff.1 j.r).1]; exact j.r, j.w.trans (hb.mono j.w.size), j.s⟩
theorem FW.alloc {w0 : World} {b : Nat} {r1 r2 : Array Value} {t1 t2 : TypeId} {w : World} (j : FW w0 b r1 t1 r2 t2 w) (o : Obj) : FW w0 b r1 t1 r2 t2 (w.alloc o) := j.later ((Below.refl _ _).alloc (Nat.le_refl _) o)
theorem FW.new (w0 : World) (r1 : Array Value) (t1 : TypeId) (r2 : Array Value) (t2 : TypeId) : FW w0 w0.heap.size r1 t1 r2 t2 ((w0.alloc (.cells r1 t1)).alloc (.cells r2 t2)) := by
  have b1 : Below w0.heap.size w0 (w0.alloc (.cells r1 t1)) := (Below.refl _ _).alloc (Nat.le_refl _) _
  have b2 : Below (w0.alloc (.cells r1 t1)).heap.size (w0.alloc (.cells r1 t1)) ((w0.alloc (.cells r1 t1)).alloc (.cells r2 t2)) := (Below.refl _ _).alloc (Nat.le_refl _) _
  have h1 := heap_alloc_new w0 (.cells r1 t1)
  have h2 := heap_alloc_new (w0.alloc (.cells r1 t1)) (.cells r2 t2)
  rw [show (w0.alloc (.cells r1 t1)).heap.size = w0.heap.size + 1 by simp] at h2
  exact ⟨by rw [b2.block w0.heap.size (alloc_lt w0 _)]; exact h1, h2, b1.trans (b2.mono b1.size), Nat.le_refl _⟩
set_option maxRecDepth 100000 in
theorem Limits_ok (h : Bool) (s l g : Int) (w : World) (s0 : 1 ≤ s) (s1 : s ≤ 100000) (l0 : 0 ≤ l) (l1 : l ≤ 9) (g0 : 5 ≤ g) (g1 : g ≤ 12) (m0 : 1 ≤ s + (devz h s l g).1) (m1 : s + (devz h s l g).2 ≤ 100000) :
    Calls Try.prog 24 #[.int .i64 s, .agg #[.bool h, .int .i64 l, .int .i64 g]] w (Ret w (.tuple #[lim (s + (devz h s l g).1, s + (devz h s l g).2), .int .i64 0])) := by
  have H1 := Lib.hid (fun W => Deviations_ok h s l g W s0 s1 l0 l1 g0 g1)
  have J := LW.new w 32 h l g
  obtain ⟨⟨d0, d1⟩, d2, d3⟩ := devz_bd (s := s) h l0 l1 g0 g1
  generalize devz h s l g = D at *
  obtain ⟨D1, D2⟩ := D
  simp only at d0 d1 d2 d3 m0 m1
  have w1 : IntKind.i64.wrap (s + D1) = s + D1 := IntWalk.i64_in _ (by omega)
  have w2 : IntKind.i64.wrap (s + D2) = s + D2 := IntWalk.i64_in _ (by omega)
  simp only
  obtain ⟨L, q1⟩ : ∃ v, s + D1 = v := ⟨_, rfl⟩
  obtain ⟨M, q2⟩ : ∃ v, s + D2 = v := ⟨_, rfl⟩
  have j1 := w1.trans q1
  have j2 := w2.trans q2
  rw [q1] at m0 ⊢
  rw [q2] at m1 ⊢
  have k1 : decide (L < 1) = false := decide_eq_false (by omega)
  have k2 : decide (100000 < M) = false := decide_eq_false (by omega)
  clear w1 w2 q1 q2 s0 s1 l0 l1 g0 g1 m0 m1 d0 d1 d2 d3
  go_enter Try.func24, Try.ntmps24
  go_wp2_with fail
  ((with_reducible refine (H1.out _).mono ?_); rintro e w1 ⟨rfl, hb1⟩)
  have J1 := J.later hb1
  have J2 := J1.alloc (.cells #[.int .i64 L, .int .i64 M] 27)
  obtain ⟨k3, k4, k5, k6⟩ := J2.rc
  have J4 := J2.put L M
  clear J J1 J2
  go_wp2
  refine bodyPost_ret (results_cell_row_tmp rfl _ _ (w.heap.size + 1) 27 _ _ _ (by kernel_rfl) J4.r Try.underlying27 rfl (by kernel_rfl)) rfl ?_
  exact ⟨rfl, J4.w⟩
set_option maxRecDepth 100000 in
theorem clearance_c (a b c d : Int) (w : World) (ha : -1000000 ≤ a ∧ a ≤ 1000000) (hb : -1000000 ≤ b ∧ b ≤ 1000000) (hc : -1000000 ≤ c ∧ c ≤ 1000000) (hd : -1000000 ≤ d ∧ d ≤ 1000000) :
    Calls Try.prog 14 #[.agg #[.int .i64 a, .int .i64 b, .int .i64 c, .int .i64 d]] w (Ret w (lim (a - d, b - c))) := by
  have w1 : IntKind.i64.wrap (a - d) = a - d := IntWalk.i64_in _ (by omega)
  have w2 : IntKind.i64.wrap (b - c) = b - c := IntWalk.i64_in _ (by omega)
  have J := FW.new w #[.int .i64 a, .int .i64 b, .int .i64 c, .int .i64 d] 46 #[.int .i64 (a - d), .int .i64 (b - c)] 27
  clear ha hb hc hd
  go_enter Try.func14, Try.ntmps14
  go_wp2
  refine bodyPost_ret (results_cell_row rfl _ _ (w.heap.size + 1) 27 _ _ _ (by kernel_rfl) J.r Try.underlying27 rfl (by kernel_rfl)) rfl ?_
  exact ⟨rfl, J.w⟩
/-- A right fit with its limits, as a value. -/
abbrev fitV (s lh gh l gs : Int) : Value := .agg #[.int .i64 s, .bool true, .int .i64 lh, .int .i64 gh, .bool false, .int .i64 l, .int .i64 gs]
abbrev both4 (s lh gh l gs : Int) : Value := .agg #[.int .i64 s, .bool true, .int .i64 lh, .int .i64 gh, .bool false, .int .i64 l, .int .i64 gs, .int .i64 (s + (devz true s lh gh).1), .int .i64 (s + (devz true s lh gh).2), .int .i64 (s + (devz false s l gs).1), .int .i64 (s + (devz false s l gs).2)]
structure FitOK (s lh gh l gs : Int) : Prop where
  s0 : 1 ≤ s
  s1 : s ≤ 100000
  a0 : 0 ≤ lh
  a1 : lh ≤ 9
  b0 : 5 ≤ gh
  b1 : gh ≤ 12
  c0 : 0 ≤ l
  c1 : l ≤ 9
  d0 : 5 ≤ gs
  d1 : gs ≤ 12
  m0 : 1 ≤ s + (devz true s lh gh).1
  m1 : s + (devz true s lh gh).2 ≤ 100000
  n0 : 1 ≤ s + (devz false s l gs).1
  n1 : s + (devz false s l gs).2 ≤ 100000
set_option maxRecDepth 100000 in
set_option maxHeartbeats 2000000 in
theorem check_ok (s lh gh l gs : Int) (w : World) (hf : FitOK s lh gh l gs) : Calls Try.prog 13 #[fitV s lh gh l gs] w (Ret w (.tuple #[both4 s lh gh l gs, .int .i64 0])) := by
  have H1 := Lib.hid (fun W => fsized_ok s W hf.s0 hf.s1)
  have H2 := Lib.hid (fun W => gCheck_ok true lh gh W hf.a0 hf.a1 hf.b0 hf.b1)
  have H3 := Lib.hid (fun W => gCheck_ok false l gs W hf.c0 hf.c1 hf.d0 hf.d1)
  have H4 := Lib.hid (fun W => Limits_ok true s lh gh W hf.s0 hf.s1 hf.a0 hf.a1 hf.b0 hf.b1 hf.m0 hf.m1)
  have H5 := Lib.hid (fun W => Limits_ok false s l gs W hf.s0 hf.s1 hf.c0 hf.c1 hf.d0 hf.d1 hf.n0 hf.n1)
  clear hf
  unfold both4
  generalize s + (devz true s lh gh).1 = A1 at *
  generalize s + (devz true s lh gh).2 = A2 at *
  generalize s + (devz false s l gs).1 = B1 at *
  generalize s + (devz false s l gs).2 = B2 at *
  have x0 : ∀ W, (Instr.index 60 (.agg #[.bool true, .int .i64 lh, .int .i64 gh, .bool false, .int .i64 l, .int .i64 gs]) (.int .i64 0)).run Try.prog W = .ok (.agg #[.bool true, .int .i64 lh, .int .i64 gh]) W := fun W => rfl
  have x1 : ∀ W, (Instr.index 60 (.agg #[.bool true, .int .i64 lh, .int .i64 gh, .bool false, .int .i64 l, .int .i64 gs]) (.int .i64 1)).run Try.prog W = .ok (.agg #[.bool false, .int .i64 l, .int .i64 gs]) W := fun W => rfl
  have J := FW.new w #[.int .i64 s, .bool true, .int .i64 lh, .int .i64 gh, .bool false, .int .i64 l, .int .i64 gs] 34 #[.int .i64 0, .bool false, .int .i64 0, .int .i64 0, .bool false, .int .i64 0, .int .i64 0, .int .i64 0, .int .i64 0, .int .i64 0, .int .i64 0] 48
  go_enter Try.func13, Try.ntmps13
  go_wp2_with fail
  ((with_reducible refine (H1.out _).mono ?_); rintro e w1 ⟨rfl, hb1⟩)
  have J1 := J.later hb1
  clear J hb1
  have c0 : w1.cell? ⟨w.heap.size, 0, none⟩ = some (.int .i64 s) := by rw [cell_of_row _ _ _ _ _ _ J1.c]; rfl
  have c1 : w1.cell? ⟨w.heap.size, 1, none⟩ = some (.bool true) := by rw [cell_of_row _ _ _ _ _ _ J1.c]; rfl
  have c2 : w1.cell? ⟨w.heap.size, 2, none⟩ = some (.int .i64 lh) := by rw [cell_of_row _ _ _ _ _ _ J1.c]; rfl
  have c3 : w1.cell? ⟨w.heap.size, 3, none⟩ = some (.int .i64 gh) := by rw [cell_of_row _ _ _ _ _ _ J1.c]; rfl
  have c4 : w1.cell? ⟨w.heap.size, 4, none⟩ = some (.bool false) := by rw [cell_of_row _ _ _ _ _ _ J1.c]; rfl
  have c5 : w1.cell? ⟨w.heap.size, 5, none⟩ = some (.int .i64 l) := by rw [cell_of_row _ _ _ _ _ _ J1.c]; rfl
  have c6 : w1.cell? ⟨w.heap.size, 6, none⟩ = some (.int .i64 gs) := by rw [cell_of_row _ _ _ _ _ _ J1.c]; rfl
  go_wp2_with fail
  go_loopw [23] (fun si wr => ∃ i : Nat, si = .int .i64 (i : Int) ∧ i ≤ 2 ∧ FW w w.heap.size #[.int .i64 s, .bool true, .int .i64 lh, .int .i64 gh, .bool false, .int .i64 l, .int .i64 gs] 34 #[.int .i64 0, .bool false, .int .i64 0, .int .i64 0, .bool false, .int .i64 0, .int .i64 0, .int .i64 0, .int .i64 0, .int .i64 0, .int .i64 0] 48 wr) (fun si _ => 2 - (intOf si).toNat)
  case atStart => exact ⟨0, rfl, by omega, J1⟩
  case round =>
    obtain ⟨i, rfl, hi, J2⟩ := hrel
    have hi3 : i = 0 ∨ i = 1 ∨ i = 2 := by omega
    clear c0 c1 c2 c3 c4 c5 c6
    rcases hi3 with rfl | rfl | rfl
    · have J3 := J2.alloc (.cells #[.bool true, .int .i64 lh, .int .i64 gh] 32)
      go_wp2_with fail
      ((with_reducible refine (H2.out _).mono ?_); rintro e w2 ⟨rfl, hb2⟩)
      have J4 := J3.later hb2
      go_wp2
      go_roundw
      case rel => exact ⟨1, by go_num, by omega, J4⟩
      case measure => simp [intOf]
    · have J3 := J2.alloc (.cells #[.bool false, .int .i64 l, .int .i64 gs] 32)
      go_wp2_with fail
      ((with_reducible refine (H3.out _).mono ?_); rintro e w2 ⟨rfl, hb2⟩)
      have J4 := J3.later hb2
      go_wp2
      go_roundw
      case rel => exact ⟨2, by go_num, by omega, J4⟩
      case measure => simp [intOf]
    · 
      have c0 : wr.cell? ⟨w.heap.size, 0, none⟩ = some (.int .i64 s) := by rw [cell_of_row _ _ _ _ _ _ J2.c]; rfl
      have c1 : wr.cell? ⟨w.heap.size, 1, none⟩ = some (.bool true) := by rw [cell_of_row _ _ _ _ _ _ J2.c]; rfl
      have c2 : wr.cell? ⟨w.heap.size, 2, none⟩ = some (.int .i64 lh) := by rw [cell_of_row _ _ _ _ _ _ J2.c]; rfl
      have c3 : wr.cell? ⟨w.heap.size, 3, none⟩ = some (.int .i64 gh) := by rw [cell_of_row _ _ _ _ _ _ J2.c]; rfl
      have c4 : wr.cell? ⟨w.heap.size, 4, none⟩ = some (.bool false) := by rw [cell_of_row _ _ _ _ _ _ J2.c]; rfl
      have c5 : wr.cell? ⟨w.heap.size, 5, none⟩ = some (.int .i64 l) := by rw [cell_of_row _ _ _ _ _ _ J2.c]; rfl
      have c6 : wr.cell? ⟨w.heap.size, 6, none⟩ = some (.int .i64 gs) := by rw [cell_of_row _ _ _ _ _ _ J2.c]; rfl
      go_wp2_with fail
      ((with_reducible refine (H4.out _).mono ?_); rintro e w4 ⟨rfl, hb4⟩)
      have J5 := (J2.later hb4).alloc (.cells #[.int .i64 A1, .int .i64 A2] 27)
      clear c0 c1 c2 c3 c4 c5 c6 J2
      have c0 : (w4.alloc (.cells #[.int .i64 A1, .int .i64 A2] 27)).cell? ⟨w.heap.size, 0, none⟩ = some (.int .i64 s) := by rw [cell_of_row _ _ _ _ _ _ J5.c]; rfl
      have c1 : (w4.alloc (.cells #[.int .i64 A1, .int .i64 A2] 27)).cell? ⟨w.heap.size, 1, none⟩ = some (.bool true) := by rw [cell_of_row _ _ _ _ _ _ J5.c]; rfl
      have c2 : (w4.alloc (.cells #[.int .i64 A1, .int .i64 A2] 27)).cell? ⟨w.heap.size, 2, none⟩ = some (.int .i64 lh) := by rw [cell_of_row _ _ _ _ _ _ J5.c]; rfl
      have c3 : (w4.alloc (.cells #[.int .i64 A1, .int .i64 A2] 27)).cell? ⟨w.heap.size, 3, none⟩ = some (.int .i64 gh) := by rw [cell_of_row _ _ _ _ _ _ J5.c]; rfl
      have c4 : (w4.alloc (.cells #[.int .i64 A1, .int .i64 A2] 27)).cell? ⟨w.heap.size, 4, none⟩ = some (.bool false) := by rw [cell_of_row _ _ _ _ _ _ J5.c]; rfl
      have c5 : (w4.alloc (.cells #[.int .i64 A1, .int .i64 A2] 27)).cell? ⟨w.heap.size, 5, none⟩ = some (.int .i64 l) := by rw [cell_of_row _ _ _ _ _ _ J5.c]; rfl
      have c6 : (w4.alloc (.cells #[.int .i64 A1, .int .i64 A2] 27)).cell? ⟨w.heap.size, 6, none⟩ = some (.int .i64 gs) := by rw [cell_of_row _ _ _ _ _ _ J5.c]; rfl
      go_wp2_with fail
      ((with_reducible refine (H5.out _).mono ?_); rintro e w5 ⟨rfl, hb5⟩)
      have K8 := (hb5.block _ (alloc_lt _ _)).trans (heap_alloc_new w4 (.cells #[.int .i64 A1, .int .i64 A2] 27))
      have hba : Below w5.heap.size w5 (w5.alloc (.cells #[.int .i64 B1, .int .i64 B2] 27)) := (Below.refl _ _).alloc (Nat.le_refl _) _
      have J6 := (J5.later hb5).later hba
      have K9 := (hba.block _ (Array.getElem?_eq_some_iff.1 K8).1).trans K8
      clear c0 c1 c2 c3 c4 c5 c6 J5 K8
      have c0 : (w5.alloc (.cells #[.int .i64 B1, .int .i64 B2] 27)).cell? ⟨w.heap.size, 0, none⟩ = some (.int .i64 s) := by rw [cell_of_row _ _ _ _ _ _ J6.c]; rfl
      have c1 : (w5.alloc (.cells #[.int .i64 B1, .int .i64 B2] 27)).cell? ⟨w.heap.size, 1, none⟩ = some (.bool true) := by rw [cell_of_row _ _ _ _ _ _ J6.c]; rfl
      have c2 : (w5.alloc (.cells #[.int .i64 B1, .int .i64 B2] 27)).cell? ⟨w.heap.size, 2, none⟩ = some (.int .i64 lh) := by rw [cell_of_row _ _ _ _ _ _ J6.c]; rfl
      have c3 : (w5.alloc (.cells #[.int .i64 B1, .int .i64 B2] 27)).cell? ⟨w.heap.size, 3, none⟩ = some (.int .i64 gh) := by rw [cell_of_row _ _ _ _ _ _ J6.c]; rfl
      have c4 : (w5.alloc (.cells #[.int .i64 B1, .int .i64 B2] 27)).cell? ⟨w.heap.size, 4, none⟩ = some (.bool false) := by rw [cell_of_row _ _ _ _ _ _ J6.c]; rfl
      have c5 : (w5.alloc (.cells #[.int .i64 B1, .int .i64 B2] 27)).cell? ⟨w.heap.size, 5, none⟩ = some (.int .i64 l) := by rw [cell_of_row _ _ _ _ _ _ J6.c]; rfl
      have c6 : (w5.alloc (.cells #[.int .i64 B1, .int .i64 B2] 27)).cell? ⟨w.heap.size, 6, none⟩ = some (.int .i64 gs) := by rw [cell_of_row _ _ _ _ _ _ J6.c]; rfl
      have d0 := cell_of_row _ _ 0 _ _ _ K9
      have d1 := cell_of_row _ _ 1 _ _ _ K9
      go_upto_region 19 with fail
      rename_i K0 hK0
      refine wp_region_lit ?_
      iterate 5 (refine wpList_plain rfl fun K hK => ?_; go_simp; refine hK _ _ ?_; clear hK; clear K)
      refine wpList_store_row rfl 48 (.tmp 2) (.tmp 71) rfl (w.heap.size + 1) #[.int .i64 s, .bool true, .int .i64 lh, .int .i64 gh, .bool false, .int .i64 l, .int .i64 gs, .int .i64 A1, .int .i64 A2, .int .i64 B1, .int .i64 B2] rfl (by kernel_rfl) 48 #[.int .i64 0, .bool false, .int .i64 0, .int .i64 0, .bool false, .int .i64 0, .int .i64 0, .int .i64 0, .int .i64 0, .int .i64 0, .int .i64 0] J6.r (by kernel_rfl) rfl (by kernel_rfl) ?_
      refine wpList_plain rfl fun K hK => ?_
      go_simp
      refine hK _ _ ?_
      clear hK; clear K
      refine wpList_nil ?_
      refine hK0 _ _ (wp_ret ?_)
      refine bodyPost_ret (results_cell_row_tmp rfl _ _ (w.heap.size + 1) 48 #[.int .i64 s, .bool true, .int .i64 lh, .int .i64 gh, .bool false, .int .i64 l, .int .i64 gs, .int .i64 A1, .int .i64 A2, .int .i64 B1, .int .i64 B2] _ _ (by kernel_rfl) (setRow_heap _ _ _ _ _ _ J6.r) Try.underlying48 rfl (by kernel_rfl)) rfl ?_
      exact ⟨rfl, J6.w.trans ⟨rfl, rfl, rfl, by simp [World.setRow], fun k hk => setRow_other _ _ k _ (by omega)⟩⟩
set_option maxRecDepth 100000 in
set_option maxHeartbeats 2000000 in
theorem Clearance_ok (s lh gh l gs : Int) (w : World) (hf : FitOK s lh gh l gs) : Calls Try.prog 6 #[fitV s lh gh l gs] w (Ret w (.tuple #[lim (s + (devz true s lh gh).1 - (s + (devz false s l gs).2), s + (devz true s lh gh).2 - (s + (devz false s l gs).1)), .int .i64 0])) := by
  have H1 := Lib.hid (fun W => check_ok s lh gh l gs W hf)
  obtain ⟨⟨x0, x1⟩, x2, x3⟩ := devz_bd (s := s) true hf.a0 hf.a1 hf.b0 hf.b1
  obtain ⟨⟨y0, y1⟩, y2, y3⟩ := devz_bd (s := s) false hf.c0 hf.c1 hf.d0 hf.d1
  have z0 := hf.s0; have z1 := hf.s1
  unfold both4 at H1
  have H2 := Lib.hid (fun W => clearance_c (s + (devz true s lh gh).1) (s + (devz true s lh gh).2) (s + (devz false s l gs).1) (s + (devz false s l gs).2) W (by omega) (by omega) (by omega) (by omega))
  clear hf x0 x1 x2 x3 y0 y1 y2 y3 z0 z1
  generalize s + (devz true s lh gh).1 = A1 at *
  generalize s + (devz true s lh gh).2 = A2 at *
  generalize s + (devz false s l gs).1 = B1 at *
  generalize s + (devz false s l gs).2 = B2 at *
  generalize A1 - B2 = L at *
  generalize A2 - B1 = M at *
  have J := FW.new w #[.int .i64 s, .bool true, .int .i64 lh, .int .i64 gh, .bool false, .int .i64 l, .int .i64 gs] 34 #[.int .i64 0, .int .i64 0] 27
  go_enter Try.func6, Try.ntmps6
  go_wp2_with fail
  ((with_reducible refine (H1.out _).mono ?_); rintro e w1 ⟨rfl, hb1⟩)
  have J1 := J.later hb1
  have J2 := J1.alloc (.cells #[.int .i64 s, .bool true, .int .i64 lh, .int .i64 gh, .bool false, .int .i64 l, .int .i64 gs, .int .i64 A1, .int .i64 A2, .int .i64 B1, .int .i64 B2] 48)
  go_wp2_with fail
  ((with_reducible refine (H2.out _).mono ?_); rintro e w2 ⟨rfl, hb2⟩)
  have J3 := J2.later hb2
  have k0 := cell_of_row _ _ 0 _ _ _ J3.r
  have k1 := cell_of_row _ _ 1 _ _ _ J3.r
  have k2 := frozen_of_row _ _ 0 _ _ J3.r
  have k3 := frozen_of_row _ _ 1 _ _ J3.r
  have hrr := heap_setCell_same _ (w.heap.size + 1) 1 _ _ (.int .i64 M) (heap_setCell_same w2 (w.heap.size + 1) 0 _ _ (.int .i64 L) J3.r)
  have hbb := (J3.w.setCell (p := ⟨w.heap.size + 1, 0, none⟩) (by show w.heap.size ≤ w.heap.size + 1; omega) (.int .i64 L)).setCell (p := ⟨w.heap.size + 1, 1, none⟩) (by show w.heap.size ≤ w.heap.size + 1; omega) (.int .i64 M)
  go_wp2
  refine bodyPost_ret (results_cell_row_tmp rfl _ _ (w.heap.size + 1) 27 #[.int .i64 L, .int .i64 M] _ _ (by kernel_rfl) hrr Try.underlying27 rfl (by kernel_rfl)) rfl ?_
  exact ⟨rfl, hbb⟩
def kindZ (L M : Int) : Int := if 0 ≤ L then 0 else if M ≤ 0 then 2 else 1
set_option maxRecDepth 100000 in
set_option maxHeartbeats 2000000 in
theorem Kind_ok (s lh gh l gs : Int) (w : World) (hf : FitOK s lh gh l gs) : Calls Try.prog 8 #[fitV s lh gh l gs] w (Ret w (.tuple #[.int .i64 (kindZ (s + (devz true s lh gh).1 - (s + (devz false s l gs).2)) (s + (devz true s lh gh).2 - (s + (devz false s l gs).1))), .int .i64 0])) := by
  have H1 := Lib.hid (fun W => check_ok s lh gh l gs W hf)
  obtain ⟨⟨x0, x1⟩, x2, x3⟩ := devz_bd (s := s) true hf.a0 hf.a1 hf.b0 hf.b1
  obtain ⟨⟨y0, y1⟩, y2, y3⟩ := devz_bd (s := s) false hf.c0 hf.c1 hf.d0 hf.d1
  have z0 := hf.s0; have z1 := hf.s1
  unfold both4 at H1
  have H2 := Lib.hid (fun W => clearance_c (s + (devz true s lh gh).1) (s + (devz true s lh gh).2) (s + (devz false s l gs).1) (s + (devz false s l gs).2) W (by omega) (by omega) (by omega) (by omega))
  clear hf x0 x1 x2 x3 y0 y1 y2 y3 z0 z1
  generalize s + (devz true s lh gh).1 = A1 at *
  generalize s + (devz true s lh gh).2 = A2 at *
  generalize s + (devz false s l gs).1 = B1 at *
  generalize s + (devz false s l gs).2 = B2 at *
  generalize A1 - B2 = L at *
  generalize A2 - B1 = M at *
  have hB : Below w.heap.size w (w.alloc (.cells #[.int .i64 s, .bool true, .int .i64 lh, .int .i64 gh, .bool false, .int .i64 l, .int .i64 gs] 34)) := (Below.refl _ _).alloc (Nat.le_refl _) _
  have key : ∀ b1 b2 : Bool, decide (0 ≤ L) = b1 → decide (M ≤ 0) = b2 → kindZ L M = (if b1 then 0 else if b2 then 2 else 1) := by
    rintro b1 b2 rfl rfl; unfold kindZ; simp
  obtain ⟨b1, e1⟩ : ∃ b, decide (0 ≤ L) = b := ⟨_, rfl⟩
  obtain ⟨b2, e2⟩ : ∃ b, decide (M ≤ 0) = b := ⟨_, rfl⟩
  rw [key b1 b2 e1 e2]
  clear key
  cases b1 <;> cases b2
  all_goals
    go_enter Try.func8, Try.ntmps8
    go_wp2_with fail
    ((with_reducible refine (H1.out _).mono ?_); rintro e w1 ⟨rfl, hb1⟩)
    have hB1 := hB.trans (hb1.mono hB.size)
    have hB2 := hB1.alloc hB1.size (.cells #[.int .i64 s, .bool true, .int .i64 lh, .int .i64 gh, .bool false, .int .i64 l, .int .i64 gs, .int .i64 A1, .int .i64 A2, .int .i64 B1, .int .i64 B2] 48)
    go_wp2_with fail
    ((with_reducible refine (H2.out _).mono ?_); rintro e w2 ⟨rfl, hb2⟩)
    have hB3 := hB2.trans (hb2.mono hB2.size)
    have hB4 := hB3.alloc hB3.size (.cells #[.int .i64 L, .int .i64 M] 27)
    go_wp2
    go_returns
    exact ⟨rfl, hB4⟩
set_option maxRecDepth 100000 in
theorem fit_c (s l gh gs : Int) (w : World) : Calls Try.prog 7 #[.agg #[.int .i64 s, .int .i64 l, .int .i64 gh, .int .i64 gs]] w (Ret w (fitV s 4 gh l gs)) := by
  have J := FW.new w #[.int .i64 s, .int .i64 l, .int .i64 gh, .int .i64 gs] 23 #[.int .i64 s, .bool true, .int .i64 4, .int .i64 gh, .bool false, .int .i64 l, .int .i64 gs] 34
  go_enter Try.func7, Try.ntmps7
  go_wp2
  refine bodyPost_ret (results_cell_row rfl _ _ (w.heap.size + 1) 34 _ _ _ (by kernel_rfl) J.r Try.underlying34 rfl (by kernel_rfl)) rfl ?_
  exact ⟨rfl, J.w⟩
set_option maxRecDepth 100000 in
theorem ref_c (s l gh gs : Int) (w : World) : Calls Try.prog 12 #[.agg #[.int .i64 s, .int .i64 l, .int .i64 gh, .int .i64 gs]] w (Ret w (fitV s 4 gh l gs)) := by
  have J := FW.new w #[.int .i64 s, .int .i64 l, .int .i64 gh, .int .i64 gs] 23 #[.int .i64 s, .bool true, .int .i64 4, .int .i64 gh, .bool false, .int .i64 l, .int .i64 gs] 43
  go_enter Try.func12, Try.ntmps12
  go_wp2
  refine bodyPost_ret (results_cell_row rfl _ _ (w.heap.size + 1) 43 _ _ _ (by kernel_rfl) J.r Try.underlying43 rfl (by kernel_rfl)) rfl ?_
  exact ⟨rfl, J.w⟩
end Go.Proofs.Wk
