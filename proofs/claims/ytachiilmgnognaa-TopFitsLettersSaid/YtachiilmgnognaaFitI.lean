/- FITS: the law TopFitsLetters, walked. -/
import Derived.Test.YtachiilmgnognaaFitH
namespace Go.Proofs.Wk
open Go.RowKit

set_option maxRecDepth 100000 in
theorem fits_wrong (s l gh gs : Int) (w : World) (h : fitE s gh l gs ≠ 0) : Calls Try.prog 3 #[.agg #[.int .i64 s, .int .i64 l, .int .i64 gh, .int .i64 gs]] w (Ret w (.bool true)) := by
  have h1 := fun W => runRight_c s l gh gs W
  rw [show (fitE s gh l gs == 0) = false from beq_eq_false_iff_ne.2 h] at h1
  have H1 := Lib.hid h1
  have H2 := Lib.hid runFits_c
  clear h h1
  have J := BX.new w #[.int .i64 s, .int .i64 l, .int .i64 gh, .int .i64 gs] 23
  go_enter Try.func3, Try.ntmps3
  go_wp2_with fail
  ((with_reducible refine (H1.out _).mono ?_); rintro e w1 ⟨rfl, hb1⟩)
  have J1 := J.later hb1
  go_wp2_with fail
  ((with_reducible refine (H2.out _).mono ?_); rintro e w2 ⟨rfl, hb2⟩)
  have J2 := J1.later hb2
  go_wp2
  go_ret
  exact ⟨rfl, J2.w⟩
set_option maxRecDepth 100000 in
set_option maxHeartbeats 4000000 in
theorem fits_right (s l gh gs : Int) (w : World) (h : fitE s gh l gs = 0) : Calls Try.prog 3 #[.agg #[.int .i64 s, .int .i64 l, .int .i64 gh, .int .i64 gs]] w (Ret w (.bool true)) := by
  have hf := fitE_ok h
  have h0 := fun W => runRight_c s l gh gs W
  rw [show (fitE s gh l gs == 0) = true from beq_iff_eq.2 h] at h0
  have H0 := Lib.hid h0
  have HF := Lib.hid (fun W => fit_c s l gh gs W)
  have HC := Lib.hid (fun W => Clearance_ok s 4 gh l gs W hf)
  have HK := Lib.hid (fun W => Kind_ok s 4 gh l gs W hf)
  have HT1 := Lib.hid (fun W => Tolerance_ok s gh W hf.s0 hf.s1 hf.b0 hf.b1)
  have HT2 := Lib.hid (fun W => Tolerance_ok s gs W hf.s0 hf.s1 hf.d0 hf.d1)
  have HD := Lib.hid (fun W => Deviations_ok false s l gs W hf.s0 hf.s1 hf.c0 hf.c1 hf.d0 hf.d1)
  have HR := Lib.hid runFits_c
  have P := fp hf
  have r := lb_run hf.c0 hf.c1
  obtain ⟨e4, e5, e6, -, -⟩ := lb_bd hf.c0 hf.c1
  generalize kindZ (s + (devz true s 4 gh).1 - (s + (devz false s l gs).2)) (s + (devz true s 4 gh).2 - (s + (devz false s l gs).1)) = K at *
  generalize s + (devz true s 4 gh).1 - (s + (devz false s l gs).2) = Lo at *
  generalize s + (devz true s 4 gh).2 - (s + (devz false s l gs).1) = Hi at *
  generalize devz false s l gs = D at *
  obtain ⟨D1, D2⟩ := D
  generalize tol s gh = A at *
  generalize tol s gs = B at *
  simp only at P
  obtain ⟨lo, hi, b1, b2, bA, bB, bK, pa, pb, pc⟩ := P
  have j1 : IntKind.i64.wrap (-D2) = Lo := by rw [lo]; exact IntWalk.i64_in _ (by omega)
  have j2 : IntKind.i64.wrap (A - D1) = Hi := by rw [hi]; exact IntWalk.i64_in _ (by omega)
  have j3 : l ≠ 5 → ∃ S, IntKind.i64.wrap (Hi - Lo) = S ∧ IntKind.i64.wrap (A + B) = S := fun h => ⟨A + B, by rw [IntWalk.i64_in _ (by omega)]; have := pc h; omega, IntWalk.i64_in _ (by omega)⟩
  clear hf h h0
  generalize lb l = x at *
  rcases (by omega : l ≤ 4 ∨ l = 5 ∨ 6 ≤ l) with hl | hl | hl
  · have x1 : decide (x ≤ 104) = true := decide_eq_true (e4 hl)
    have x2 : decide (106 < x) = false := decide_eq_false (by have := e4 hl; omega)
    have x3 : (x == 106) = false := beq_eq_false_iff_ne.2 (by have := e4 hl; omega)
    obtain ⟨rfl, q0⟩ := pa hl
    have q1 : decide (Lo < 0) = false := decide_eq_false (by omega)
    obtain ⟨S, s1, s2⟩ := j3 (by omega)
    clear e4 e5 e6 lo hi b1 b2 bA bB bK pa pb pc hl q0 j3
    have J0 := BX.new w #[.int .i64 s, .int .i64 l, .int .i64 gh, .int .i64 gs] 23
    go_enter Try.func3, Try.ntmps3
    go_wp2_with fail
    ((with_reducible refine (H0.out _).mono ?_); rintro e w1 ⟨rfl, hb1⟩)
    have J1 := J0.later hb1
    have c0 : (w1).cell? ⟨w.heap.size, 0, none⟩ = some (.int .i64 s) := by rw [cell_of_row _ _ _ _ _ _ J1.c]; rfl
    have c1 : (w1).cell? ⟨w.heap.size, 1, none⟩ = some (.int .i64 l) := by rw [cell_of_row _ _ _ _ _ _ J1.c]; rfl
    have c2 : (w1).cell? ⟨w.heap.size, 2, none⟩ = some (.int .i64 gh) := by rw [cell_of_row _ _ _ _ _ _ J1.c]; rfl
    have c3 : (w1).cell? ⟨w.heap.size, 3, none⟩ = some (.int .i64 gs) := by rw [cell_of_row _ _ _ _ _ _ J1.c]; rfl
    go_wp2_with fail
    ((with_reducible refine (HF.out _).mono ?_); rintro e w2 ⟨rfl, hb2⟩)
    have J2 := J1.later hb2
    go_wp2_with fail
    ((with_reducible refine (HC.out _).mono ?_); rintro e w3 ⟨rfl, hb3⟩)
    have J3 := J2.later hb3
    have J3a := J3.alloc (.cells #[.int .i64 Lo, .int .i64 Hi] 27)
    clear c0 c1 c2 c3
    have c0 : (w3.alloc (.cells #[.int .i64 Lo, .int .i64 Hi] 27)).cell? ⟨w.heap.size, 0, none⟩ = some (.int .i64 s) := by rw [cell_of_row _ _ _ _ _ _ J3a.c]; rfl
    have c1 : (w3.alloc (.cells #[.int .i64 Lo, .int .i64 Hi] 27)).cell? ⟨w.heap.size, 1, none⟩ = some (.int .i64 l) := by rw [cell_of_row _ _ _ _ _ _ J3a.c]; rfl
    have c2 : (w3.alloc (.cells #[.int .i64 Lo, .int .i64 Hi] 27)).cell? ⟨w.heap.size, 2, none⟩ = some (.int .i64 gh) := by rw [cell_of_row _ _ _ _ _ _ J3a.c]; rfl
    have c3 : (w3.alloc (.cells #[.int .i64 Lo, .int .i64 Hi] 27)).cell? ⟨w.heap.size, 3, none⟩ = some (.int .i64 gs) := by rw [cell_of_row _ _ _ _ _ _ J3a.c]; rfl
    go_wp2_with fail
    ((with_reducible refine (HF.out _).mono ?_); rintro e w4 ⟨rfl, hb4⟩)
    have J4 := J3a.later hb4
    have K4 := fresh_later2 hb4
    clear c0 c1 c2 c3 J0 J1 J2 J3 J3a
    go_wp2_with fail
    ((with_reducible refine (HK.out _).mono ?_); rintro e w5 ⟨rfl, hb5⟩)
    have J5 := J4.later hb5
    have K5 := row_later K4 hb5
    have c0 : (w5).cell? ⟨w.heap.size, 0, none⟩ = some (.int .i64 s) := by rw [cell_of_row _ _ _ _ _ _ J5.c]; rfl
    have c1 : (w5).cell? ⟨w.heap.size, 1, none⟩ = some (.int .i64 l) := by rw [cell_of_row _ _ _ _ _ _ J5.c]; rfl
    have c2 : (w5).cell? ⟨w.heap.size, 2, none⟩ = some (.int .i64 gh) := by rw [cell_of_row _ _ _ _ _ _ J5.c]; rfl
    have c3 : (w5).cell? ⟨w.heap.size, 3, none⟩ = some (.int .i64 gs) := by rw [cell_of_row _ _ _ _ _ _ J5.c]; rfl
    go_wp2_with fail
    ((with_reducible refine (HT1.out _).mono ?_); rintro e w6 ⟨rfl, hb6⟩)
    have J6 := J5.later hb6
    have K6 := row_later K5 hb6
    clear c0 c1 c2 c3
    have c0 : (w6).cell? ⟨w.heap.size, 0, none⟩ = some (.int .i64 s) := by rw [cell_of_row _ _ _ _ _ _ J6.c]; rfl
    have c1 : (w6).cell? ⟨w.heap.size, 1, none⟩ = some (.int .i64 l) := by rw [cell_of_row _ _ _ _ _ _ J6.c]; rfl
    have c2 : (w6).cell? ⟨w.heap.size, 2, none⟩ = some (.int .i64 gh) := by rw [cell_of_row _ _ _ _ _ _ J6.c]; rfl
    have c3 : (w6).cell? ⟨w.heap.size, 3, none⟩ = some (.int .i64 gs) := by rw [cell_of_row _ _ _ _ _ _ J6.c]; rfl
    go_wp2_with fail
    ((with_reducible refine (HT2.out _).mono ?_); rintro e w7 ⟨rfl, hb7⟩)
    have J7 := J6.later hb7
    have K7 := row_later K6 hb7
    clear c0 c1 c2 c3
    have c0 : (w7).cell? ⟨w.heap.size, 0, none⟩ = some (.int .i64 s) := by rw [cell_of_row _ _ _ _ _ _ J7.c]; rfl
    have c1 : (w7).cell? ⟨w.heap.size, 1, none⟩ = some (.int .i64 l) := by rw [cell_of_row _ _ _ _ _ _ J7.c]; rfl
    have c2 : (w7).cell? ⟨w.heap.size, 2, none⟩ = some (.int .i64 gh) := by rw [cell_of_row _ _ _ _ _ _ J7.c]; rfl
    have c3 : (w7).cell? ⟨w.heap.size, 3, none⟩ = some (.int .i64 gs) := by rw [cell_of_row _ _ _ _ _ _ J7.c]; rfl
    go_wp2_with fail
    ((with_reducible refine (HD.out _).mono ?_); rintro e w8 ⟨rfl, hb8⟩)
    have J8 := (J7.later hb8).alloc (.cells #[.int .i64 D1, .int .i64 D2] 27)
    have K8 := row_later (row_later K7 hb8) ((Below.refl _ _).alloc (Nat.le_refl _) (.cells #[.int .i64 D1, .int .i64 D2] 27))
    clear c0 c1 c2 c3 J4 J5 J6 J7 K4 K5 K6 K7
    have c0 : (w8.alloc (.cells #[.int .i64 D1, .int .i64 D2] 27)).cell? ⟨w.heap.size, 0, none⟩ = some (.int .i64 s) := by rw [cell_of_row _ _ _ _ _ _ J8.c]; rfl
    have c1 : (w8.alloc (.cells #[.int .i64 D1, .int .i64 D2] 27)).cell? ⟨w.heap.size, 1, none⟩ = some (.int .i64 l) := by rw [cell_of_row _ _ _ _ _ _ J8.c]; rfl
    have c2 : (w8.alloc (.cells #[.int .i64 D1, .int .i64 D2] 27)).cell? ⟨w.heap.size, 2, none⟩ = some (.int .i64 gh) := by rw [cell_of_row _ _ _ _ _ _ J8.c]; rfl
    have c3 : (w8.alloc (.cells #[.int .i64 D1, .int .i64 D2] 27)).cell? ⟨w.heap.size, 3, none⟩ = some (.int .i64 gs) := by rw [cell_of_row _ _ _ _ _ _ J8.c]; rfl
    have k0 : (w8.alloc (.cells #[.int .i64 D1, .int .i64 D2] 27)).cell? ⟨w3.heap.size, 0, none⟩ = some (.int .i64 Lo) := by rw [cell_of_row _ _ _ _ _ _ K8]; rfl
    have k1 : (w8.alloc (.cells #[.int .i64 D1, .int .i64 D2] 27)).cell? ⟨w3.heap.size, 1, none⟩ = some (.int .i64 Hi) := by rw [cell_of_row _ _ _ _ _ _ K8]; rfl
    go_wp2_with fail
    ((with_reducible refine (HR.out _).mono ?_); rintro e w9 ⟨rfl, hb9⟩)
    have J9 := J8.later hb9
    go_wp2
    go_ret
    exact ⟨rfl, J9.w⟩
  · have x3 : x = 106 := e5 hl
    clear e4 e5 e6 lo hi b1 b2 bA bB bK pa pb pc hl j3
    subst x3
    have J0 := BX.new w #[.int .i64 s, .int .i64 l, .int .i64 gh, .int .i64 gs] 23
    go_enter Try.func3, Try.ntmps3
    go_wp2_with fail
    ((with_reducible refine (H0.out _).mono ?_); rintro e w1 ⟨rfl, hb1⟩)
    have J1 := J0.later hb1
    have c0 : (w1).cell? ⟨w.heap.size, 0, none⟩ = some (.int .i64 s) := by rw [cell_of_row _ _ _ _ _ _ J1.c]; rfl
    have c1 : (w1).cell? ⟨w.heap.size, 1, none⟩ = some (.int .i64 l) := by rw [cell_of_row _ _ _ _ _ _ J1.c]; rfl
    have c2 : (w1).cell? ⟨w.heap.size, 2, none⟩ = some (.int .i64 gh) := by rw [cell_of_row _ _ _ _ _ _ J1.c]; rfl
    have c3 : (w1).cell? ⟨w.heap.size, 3, none⟩ = some (.int .i64 gs) := by rw [cell_of_row _ _ _ _ _ _ J1.c]; rfl
    go_wp2_with fail
    ((with_reducible refine (HF.out _).mono ?_); rintro e w2 ⟨rfl, hb2⟩)
    have J2 := J1.later hb2
    go_wp2_with fail
    ((with_reducible refine (HC.out _).mono ?_); rintro e w3 ⟨rfl, hb3⟩)
    have J3 := J2.later hb3
    have J3a := J3.alloc (.cells #[.int .i64 Lo, .int .i64 Hi] 27)
    clear c0 c1 c2 c3
    have c0 : (w3.alloc (.cells #[.int .i64 Lo, .int .i64 Hi] 27)).cell? ⟨w.heap.size, 0, none⟩ = some (.int .i64 s) := by rw [cell_of_row _ _ _ _ _ _ J3a.c]; rfl
    have c1 : (w3.alloc (.cells #[.int .i64 Lo, .int .i64 Hi] 27)).cell? ⟨w.heap.size, 1, none⟩ = some (.int .i64 l) := by rw [cell_of_row _ _ _ _ _ _ J3a.c]; rfl
    have c2 : (w3.alloc (.cells #[.int .i64 Lo, .int .i64 Hi] 27)).cell? ⟨w.heap.size, 2, none⟩ = some (.int .i64 gh) := by rw [cell_of_row _ _ _ _ _ _ J3a.c]; rfl
    have c3 : (w3.alloc (.cells #[.int .i64 Lo, .int .i64 Hi] 27)).cell? ⟨w.heap.size, 3, none⟩ = some (.int .i64 gs) := by rw [cell_of_row _ _ _ _ _ _ J3a.c]; rfl
    go_wp2_with fail
    ((with_reducible refine (HF.out _).mono ?_); rintro e w4 ⟨rfl, hb4⟩)
    have J4 := J3a.later hb4
    have K4 := fresh_later2 hb4
    clear c0 c1 c2 c3 J0 J1 J2 J3 J3a
    go_wp2_with fail
    ((with_reducible refine (HK.out _).mono ?_); rintro e w5 ⟨rfl, hb5⟩)
    have J5 := J4.later hb5
    have K5 := row_later K4 hb5
    have c0 : (w5).cell? ⟨w.heap.size, 0, none⟩ = some (.int .i64 s) := by rw [cell_of_row _ _ _ _ _ _ J5.c]; rfl
    have c1 : (w5).cell? ⟨w.heap.size, 1, none⟩ = some (.int .i64 l) := by rw [cell_of_row _ _ _ _ _ _ J5.c]; rfl
    have c2 : (w5).cell? ⟨w.heap.size, 2, none⟩ = some (.int .i64 gh) := by rw [cell_of_row _ _ _ _ _ _ J5.c]; rfl
    have c3 : (w5).cell? ⟨w.heap.size, 3, none⟩ = some (.int .i64 gs) := by rw [cell_of_row _ _ _ _ _ _ J5.c]; rfl
    go_wp2_with fail
    ((with_reducible refine (HT1.out _).mono ?_); rintro e w6 ⟨rfl, hb6⟩)
    have J6 := J5.later hb6
    have K6 := row_later K5 hb6
    clear c0 c1 c2 c3
    have c0 : (w6).cell? ⟨w.heap.size, 0, none⟩ = some (.int .i64 s) := by rw [cell_of_row _ _ _ _ _ _ J6.c]; rfl
    have c1 : (w6).cell? ⟨w.heap.size, 1, none⟩ = some (.int .i64 l) := by rw [cell_of_row _ _ _ _ _ _ J6.c]; rfl
    have c2 : (w6).cell? ⟨w.heap.size, 2, none⟩ = some (.int .i64 gh) := by rw [cell_of_row _ _ _ _ _ _ J6.c]; rfl
    have c3 : (w6).cell? ⟨w.heap.size, 3, none⟩ = some (.int .i64 gs) := by rw [cell_of_row _ _ _ _ _ _ J6.c]; rfl
    go_wp2_with fail
    ((with_reducible refine (HT2.out _).mono ?_); rintro e w7 ⟨rfl, hb7⟩)
    have J7 := J6.later hb7
    have K7 := row_later K6 hb7
    clear c0 c1 c2 c3
    have c0 : (w7).cell? ⟨w.heap.size, 0, none⟩ = some (.int .i64 s) := by rw [cell_of_row _ _ _ _ _ _ J7.c]; rfl
    have c1 : (w7).cell? ⟨w.heap.size, 1, none⟩ = some (.int .i64 l) := by rw [cell_of_row _ _ _ _ _ _ J7.c]; rfl
    have c2 : (w7).cell? ⟨w.heap.size, 2, none⟩ = some (.int .i64 gh) := by rw [cell_of_row _ _ _ _ _ _ J7.c]; rfl
    have c3 : (w7).cell? ⟨w.heap.size, 3, none⟩ = some (.int .i64 gs) := by rw [cell_of_row _ _ _ _ _ _ J7.c]; rfl
    go_wp2_with fail
    ((with_reducible refine (HD.out _).mono ?_); rintro e w8 ⟨rfl, hb8⟩)
    have J8 := (J7.later hb8).alloc (.cells #[.int .i64 D1, .int .i64 D2] 27)
    have K8 := row_later (row_later K7 hb8) ((Below.refl _ _).alloc (Nat.le_refl _) (.cells #[.int .i64 D1, .int .i64 D2] 27))
    clear c0 c1 c2 c3 J4 J5 J6 J7 K4 K5 K6 K7
    have c0 : (w8.alloc (.cells #[.int .i64 D1, .int .i64 D2] 27)).cell? ⟨w.heap.size, 0, none⟩ = some (.int .i64 s) := by rw [cell_of_row _ _ _ _ _ _ J8.c]; rfl
    have c1 : (w8.alloc (.cells #[.int .i64 D1, .int .i64 D2] 27)).cell? ⟨w.heap.size, 1, none⟩ = some (.int .i64 l) := by rw [cell_of_row _ _ _ _ _ _ J8.c]; rfl
    have c2 : (w8.alloc (.cells #[.int .i64 D1, .int .i64 D2] 27)).cell? ⟨w.heap.size, 2, none⟩ = some (.int .i64 gh) := by rw [cell_of_row _ _ _ _ _ _ J8.c]; rfl
    have c3 : (w8.alloc (.cells #[.int .i64 D1, .int .i64 D2] 27)).cell? ⟨w.heap.size, 3, none⟩ = some (.int .i64 gs) := by rw [cell_of_row _ _ _ _ _ _ J8.c]; rfl
    have k0 : (w8.alloc (.cells #[.int .i64 D1, .int .i64 D2] 27)).cell? ⟨w3.heap.size, 0, none⟩ = some (.int .i64 Lo) := by rw [cell_of_row _ _ _ _ _ _ K8]; rfl
    have k1 : (w8.alloc (.cells #[.int .i64 D1, .int .i64 D2] 27)).cell? ⟨w3.heap.size, 1, none⟩ = some (.int .i64 Hi) := by rw [cell_of_row _ _ _ _ _ _ K8]; rfl
    go_wp2_with fail
    ((with_reducible refine (HR.out _).mono ?_); rintro e w9 ⟨rfl, hb9⟩)
    have J9 := J8.later hb9
    go_wp2
    go_ret
    exact ⟨rfl, J9.w⟩
  · have x1 : decide (x ≤ 104) = false := decide_eq_false (by have := e6 hl; omega)
    have x2 : decide (106 < x) = true := decide_eq_true (e6 hl)
    have x3 : (x == 106) = false := beq_eq_false_iff_ne.2 (by have := e6 hl; omega)
    obtain ⟨q0, q1⟩ := pb hl
    have q2 : (K == 0) = false := beq_eq_false_iff_ne.2 q0
    have q3 : decide (0 ≤ Lo) = false := decide_eq_false (by omega)
    obtain ⟨S, s1, s2⟩ := j3 (by omega)
    clear e4 e5 e6 lo hi b1 b2 bA bB bK pa pb pc hl q0 q1 j3
    have J0 := BX.new w #[.int .i64 s, .int .i64 l, .int .i64 gh, .int .i64 gs] 23
    go_enter Try.func3, Try.ntmps3
    go_wp2_with fail
    ((with_reducible refine (H0.out _).mono ?_); rintro e w1 ⟨rfl, hb1⟩)
    have J1 := J0.later hb1
    have c0 : (w1).cell? ⟨w.heap.size, 0, none⟩ = some (.int .i64 s) := by rw [cell_of_row _ _ _ _ _ _ J1.c]; rfl
    have c1 : (w1).cell? ⟨w.heap.size, 1, none⟩ = some (.int .i64 l) := by rw [cell_of_row _ _ _ _ _ _ J1.c]; rfl
    have c2 : (w1).cell? ⟨w.heap.size, 2, none⟩ = some (.int .i64 gh) := by rw [cell_of_row _ _ _ _ _ _ J1.c]; rfl
    have c3 : (w1).cell? ⟨w.heap.size, 3, none⟩ = some (.int .i64 gs) := by rw [cell_of_row _ _ _ _ _ _ J1.c]; rfl
    go_wp2_with fail
    ((with_reducible refine (HF.out _).mono ?_); rintro e w2 ⟨rfl, hb2⟩)
    have J2 := J1.later hb2
    go_wp2_with fail
    ((with_reducible refine (HC.out _).mono ?_); rintro e w3 ⟨rfl, hb3⟩)
    have J3 := J2.later hb3
    have J3a := J3.alloc (.cells #[.int .i64 Lo, .int .i64 Hi] 27)
    clear c0 c1 c2 c3
    have c0 : (w3.alloc (.cells #[.int .i64 Lo, .int .i64 Hi] 27)).cell? ⟨w.heap.size, 0, none⟩ = some (.int .i64 s) := by rw [cell_of_row _ _ _ _ _ _ J3a.c]; rfl
    have c1 : (w3.alloc (.cells #[.int .i64 Lo, .int .i64 Hi] 27)).cell? ⟨w.heap.size, 1, none⟩ = some (.int .i64 l) := by rw [cell_of_row _ _ _ _ _ _ J3a.c]; rfl
    have c2 : (w3.alloc (.cells #[.int .i64 Lo, .int .i64 Hi] 27)).cell? ⟨w.heap.size, 2, none⟩ = some (.int .i64 gh) := by rw [cell_of_row _ _ _ _ _ _ J3a.c]; rfl
    have c3 : (w3.alloc (.cells #[.int .i64 Lo, .int .i64 Hi] 27)).cell? ⟨w.heap.size, 3, none⟩ = some (.int .i64 gs) := by rw [cell_of_row _ _ _ _ _ _ J3a.c]; rfl
    go_wp2_with fail
    ((with_reducible refine (HF.out _).mono ?_); rintro e w4 ⟨rfl, hb4⟩)
    have J4 := J3a.later hb4
    have K4 := fresh_later2 hb4
    clear c0 c1 c2 c3 J0 J1 J2 J3 J3a
    go_wp2_with fail
    ((with_reducible refine (HK.out _).mono ?_); rintro e w5 ⟨rfl, hb5⟩)
    have J5 := J4.later hb5
    have K5 := row_later K4 hb5
    have c0 : (w5).cell? ⟨w.heap.size, 0, none⟩ = some (.int .i64 s) := by rw [cell_of_row _ _ _ _ _ _ J5.c]; rfl
    have c1 : (w5).cell? ⟨w.heap.size, 1, none⟩ = some (.int .i64 l) := by rw [cell_of_row _ _ _ _ _ _ J5.c]; rfl
    have c2 : (w5).cell? ⟨w.heap.size, 2, none⟩ = some (.int .i64 gh) := by rw [cell_of_row _ _ _ _ _ _ J5.c]; rfl
    have c3 : (w5).cell? ⟨w.heap.size, 3, none⟩ = some (.int .i64 gs) := by rw [cell_of_row _ _ _ _ _ _ J5.c]; rfl
    go_wp2_with fail
    ((with_reducible refine (HT1.out _).mono ?_); rintro e w6 ⟨rfl, hb6⟩)
    have J6 := J5.later hb6
    have K6 := row_later K5 hb6
    clear c0 c1 c2 c3
    have c0 : (w6).cell? ⟨w.heap.size, 0, none⟩ = some (.int .i64 s) := by rw [cell_of_row _ _ _ _ _ _ J6.c]; rfl
    have c1 : (w6).cell? ⟨w.heap.size, 1, none⟩ = some (.int .i64 l) := by rw [cell_of_row _ _ _ _ _ _ J6.c]; rfl
    have c2 : (w6).cell? ⟨w.heap.size, 2, none⟩ = some (.int .i64 gh) := by rw [cell_of_row _ _ _ _ _ _ J6.c]; rfl
    have c3 : (w6).cell? ⟨w.heap.size, 3, none⟩ = some (.int .i64 gs) := by rw [cell_of_row _ _ _ _ _ _ J6.c]; rfl
    go_wp2_with fail
    ((with_reducible refine (HT2.out _).mono ?_); rintro e w7 ⟨rfl, hb7⟩)
    have J7 := J6.later hb7
    have K7 := row_later K6 hb7
    clear c0 c1 c2 c3
    have c0 : (w7).cell? ⟨w.heap.size, 0, none⟩ = some (.int .i64 s) := by rw [cell_of_row _ _ _ _ _ _ J7.c]; rfl
    have c1 : (w7).cell? ⟨w.heap.size, 1, none⟩ = some (.int .i64 l) := by rw [cell_of_row _ _ _ _ _ _ J7.c]; rfl
    have c2 : (w7).cell? ⟨w.heap.size, 2, none⟩ = some (.int .i64 gh) := by rw [cell_of_row _ _ _ _ _ _ J7.c]; rfl
    have c3 : (w7).cell? ⟨w.heap.size, 3, none⟩ = some (.int .i64 gs) := by rw [cell_of_row _ _ _ _ _ _ J7.c]; rfl
    go_wp2_with fail
    ((with_reducible refine (HD.out _).mono ?_); rintro e w8 ⟨rfl, hb8⟩)
    have J8 := (J7.later hb8).alloc (.cells #[.int .i64 D1, .int .i64 D2] 27)
    have K8 := row_later (row_later K7 hb8) ((Below.refl _ _).alloc (Nat.le_refl _) (.cells #[.int .i64 D1, .int .i64 D2] 27))
    clear c0 c1 c2 c3 J4 J5 J6 J7 K4 K5 K6 K7
    have c0 : (w8.alloc (.cells #[.int .i64 D1, .int .i64 D2] 27)).cell? ⟨w.heap.size, 0, none⟩ = some (.int .i64 s) := by rw [cell_of_row _ _ _ _ _ _ J8.c]; rfl
    have c1 : (w8.alloc (.cells #[.int .i64 D1, .int .i64 D2] 27)).cell? ⟨w.heap.size, 1, none⟩ = some (.int .i64 l) := by rw [cell_of_row _ _ _ _ _ _ J8.c]; rfl
    have c2 : (w8.alloc (.cells #[.int .i64 D1, .int .i64 D2] 27)).cell? ⟨w.heap.size, 2, none⟩ = some (.int .i64 gh) := by rw [cell_of_row _ _ _ _ _ _ J8.c]; rfl
    have c3 : (w8.alloc (.cells #[.int .i64 D1, .int .i64 D2] 27)).cell? ⟨w.heap.size, 3, none⟩ = some (.int .i64 gs) := by rw [cell_of_row _ _ _ _ _ _ J8.c]; rfl
    have k0 : (w8.alloc (.cells #[.int .i64 D1, .int .i64 D2] 27)).cell? ⟨w3.heap.size, 0, none⟩ = some (.int .i64 Lo) := by rw [cell_of_row _ _ _ _ _ _ K8]; rfl
    have k1 : (w8.alloc (.cells #[.int .i64 D1, .int .i64 D2] 27)).cell? ⟨w3.heap.size, 1, none⟩ = some (.int .i64 Hi) := by rw [cell_of_row _ _ _ _ _ _ K8]; rfl
    go_wp2_with fail
    ((with_reducible refine (HR.out _).mono ?_); rintro e w9 ⟨rfl, hb9⟩)
    have J9 := J8.later hb9
    go_wp2
    go_ret
    exact ⟨rfl, J9.w⟩
theorem fits_c (s l gh gs : Int) (w : World) : Calls Try.prog 3 #[.agg #[.int .i64 s, .int .i64 l, .int .i64 gh, .int .i64 gs]] w (Ret w (.bool true)) := by
  by_cases h : fitE s gh l gs = 0
  · exact fits_right s l gh gs w h
  · exact fits_wrong s l gh gs w h
end Go.Proofs.Wk
