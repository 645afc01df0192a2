/- FITS: the law TopFitsLetters. -/
import Derived.Test.YtachiilmgnognaaFitG
namespace Go.Proofs.Wk
open Go.RowKit

/-- What the law asks of a clearance. -/
structure FP (l Lo Hi D1 D2 A B K : Int) : Prop where
  lo : Lo = -D2
  hi : Hi = A - D1
  b1 : -1000 ≤ D1 ∧ D1 ≤ 1000
  b2 : -1000 ≤ D2 ∧ D2 ≤ 1000
  bA : 4 ≤ A ∧ A ≤ 352
  bB : 4 ≤ B ∧ B ≤ 352
  bK : 0 ≤ K ∧ K ≤ 2
  a : l ≤ 4 → K = 0 ∧ 0 ≤ Lo
  b : 6 ≤ l → K ≠ 0 ∧ Lo < 0
  c : l ≠ 5 → D2 - D1 = B
theorem sha_h (s : Int) : sha s 4 = 0 := by unfold sha; rw [show shf 4 = 0 from rfl, Int.mul_zero]; rfl
theorem devz_h (s g : Int) : devz true s 4 g = (0, tol s g) := by
  unfold devz dev3
  rw [sha_h, if_pos rfl, if_pos (by omega)]
  simp
theorem fp {s gh l gs : Int} (hf : FitOK s 4 gh l gs) :
    FP l (s + (devz true s 4 gh).1 - (s + (devz false s l gs).2)) (s + (devz true s 4 gh).2 - (s + (devz false s l gs).1)) (devz false s l gs).1 (devz false s l gs).2 (tol s gh) (tol s gs)
      (kindZ (s + (devz true s 4 gh).1 - (s + (devz false s l gs).2)) (s + (devz true s 4 gh).2 - (s + (devz false s l gs).1))) := by
  obtain ⟨d1, d2⟩ := devz_bd (s := s) false hf.c0 hf.c1 hf.d0 hf.d1
  have tA := tol_bd (s := s) hf.b0 hf.b1
  have tB := tol_bd (s := s) hf.d0 hf.d1
  have sS := sha_bd (s := s) hf.c0 hf.c1
  have e : devz false s l gs = dev3 l (tol s gs) (sha s l) := rfl
  rw [devz_h]
  unfold dev3 at e
  generalize devz false s l gs = D at *
  obtain ⟨D1, D2⟩ := D
  simp only at d1 d2 ⊢
  have e1 : D1 = (if l ≤ 4 then (-sha s l - tol s gs, -sha s l) else if l = 5 then (-(tol s gs / 2), tol s gs / 2) else (sha s l, sha s l + tol s gs)).1 := by rw [← e]
  have e2 : D2 = (if l ≤ 4 then (-sha s l - tol s gs, -sha s l) else if l = 5 then (-(tol s gs / 2), tol s gs / 2) else (sha s l, sha s l + tol s gs)).2 := by rw [← e]
  clear e
  unfold kindZ
  by_cases l4 : l ≤ 4
  · rw [if_pos l4] at e1 e2; simp only at e1 e2
    refine ⟨by omega, by omega, d1, d2, tA, tB, ?_, fun _ => ⟨if_pos (by omega), by omega⟩, fun _ => by omega, fun _ => by omega⟩
    rw [if_pos (by omega)]; omega
  · rw [if_neg l4] at e1 e2
    by_cases l5 : l = 5
    · refine ⟨by omega, by omega, d1, d2, tA, tB, ?_, fun _ => by omega, fun _ => by omega, fun h => absurd l5 h⟩
      repeat' split
      all_goals omega
    · rw [if_neg l5] at e1 e2; simp only at e1 e2
      refine ⟨by omega, by omega, d1, d2, tA, tB, ?_, fun _ => by omega, fun _ => ⟨?_, by omega⟩, fun _ => by omega⟩
      · repeat' split
        all_goals omega
      · rw [if_neg (by omega)]; split <;> omega
theorem row_later {w w' : World} {b : Nat} {o : Obj} (h : w.heap[b]? = some o) (hb : Below w.heap.size w w') : w'.heap[b]? = some o := by rw [hb.block b (Array.getElem?_eq_some_iff.1 h).1]; exact h
set_option maxRecDepth 100000 in
theorem runRight_c (s l gh gs : Int) (w : World) : Calls Try.prog 4 #[.agg #[.int .i64 s, .int .i64 l, .int .i64 gh, .int .i64 gs]] w (Ret w (.bool (fitE s gh l gs == 0))) := by
  have H1 := Lib.hid (fun W => ref_c s l gh gs W)
  have H2 := Lib.hid (fun W => refCheck_c s gh l gs W)
  have J := BX.new w #[.int .i64 s, .int .i64 l, .int .i64 gh, .int .i64 gs] 23
  generalize fitE s gh l gs = E at *
  obtain ⟨b, hb⟩ : ∃ b, (E == 0) = b := ⟨_, rfl⟩
  rw [hb]
  go_enter Try.func4, Try.ntmps4
  go_wp2_with fail
  ((with_reducible refine (H1.out _).mono ?_); rintro e w1 ⟨rfl, hb1⟩)
  have J1 := J.later hb1
  go_wp2_with fail
  ((with_reducible refine (H2.out _).mono ?_); rintro e w2 ⟨rfl, hb2⟩)
  have J2 := J1.later hb2
  go_wp2
  go_ret
  exact ⟨rfl, J2.w⟩
theorem fit25 : FitOK 25000 4 7 3 6 := by constructor <;> decide +kernel
set_option maxRecDepth 100000 in
theorem runFits_c (w : World) : Calls Try.prog 5 #[] w (Ret w (.bool true)) := by
  have H1 := Lib.hid (fun W => fit_c 25000 3 7 6 W)
  have h2 := fun W => Clearance_ok 25000 4 7 3 6 W fit25
  rw [show (25000 + (devz true 25000 4 7).1 - (25000 + (devz false 25000 3 6).2), 25000 + (devz true 25000 4 7).2 - (25000 + (devz false 25000 3 6).1)) = ((7, 41) : Int × Int) by decide +kernel] at h2
  have H2 := Lib.hid h2
  clear h2
  go_enter Try.func5, Try.ntmps5
  go_wp2_with fail
  ((with_reducible refine (H1.out _).mono ?_); rintro e w1 ⟨rfl, hb1⟩)
  go_wp2_with fail
  ((with_reducible refine (H2.out _).mono ?_); rintro e w2 ⟨rfl, hb2⟩)
  have hB := hb1.trans (hb2.mono hb1.size)
  have hB2 := hB.alloc hB.size (.cells #[.int .i64 7, .int .i64 41] 27)
  go_wp2
  go_ret
  exact ⟨rfl, hB2⟩
/-- A letter of a class, as a byte. -/
def lb (l : Int) : Int := [100, 101, 102, 103, 104, 106, 107, 109, 110, 112].getD l.toNat 0
theorem lb_bd {l : Int} (h0 : 0 ≤ l) (h1 : l ≤ 9) : (l ≤ 4 → lb l ≤ 104) ∧ (l = 5 → lb l = 106) ∧ (6 ≤ l → 106 < lb l) ∧ 0 ≤ lb l ∧ lb l ≤ 255 := by
  obtain rfl | rfl | rfl | rfl | rfl | rfl | rfl | rfl | rfl | rfl : l = 0 ∨ l = 1 ∨ l = 2 ∨ l = 3 ∨ l = 4 ∨ l = 5 ∨ l = 6 ∨ l = 7 ∨ l = 8 ∨ l = 9 := by omega
  all_goals decide
theorem lb_run {l : Int} (h0 : 0 ≤ l) (h1 : l ≤ 9) : ∀ W, (Instr.index 9 (.string ⟨#[100, 101, 102, 103, 104, 106, 107, 109, 110, 112]⟩) (.int .i64 l)).run Try.prog W = .ok (.int .u8 (lb l)) W := by
  intro W
  obtain rfl | rfl | rfl | rfl | rfl | rfl | rfl | rfl | rfl | rfl : l = 0 ∨ l = 1 ∨ l = 2 ∨ l = 3 ∨ l = 4 ∨ l = 5 ∨ l = 6 ∨ l = 7 ∨ l = 8 ∨ l = 9 := by omega
  all_goals rfl
end Go.Proofs.Wk
