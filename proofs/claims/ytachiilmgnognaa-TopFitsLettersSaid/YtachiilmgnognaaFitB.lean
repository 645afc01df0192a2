/- TOLERANCE GRADES: tolerances and deviations. -/
import Derived.Test.YtachiilmgnognaaFitA
import Derived.Laws.EntriesVeiled
import Derived.Laws.Tables
import Derived.Deep.WholeRow
namespace Go.Proofs.Wk
open Go.RowKit

def fac (g : Int) : Int := [7, 10, 16, 25, 40, 64, 100, 160].getD (g - 5).toNat 0
def shf (l : Int) : Int := [50, 31, 16, 6, 0, 0, 2, 9, 15, 22].getD l.toNat 0
/-- The tolerance of a grade for a size. -/
def tol (s g : Int) : Int := (baS s * fac g + 5) / 10
def sha (s l : Int) : Int := baS s * shf l / 10
theorem baS_bd (s : Int) : 6 ≤ baS s ∧ baS s ≤ 22 := by unfold baS; repeat' split; all_goals omega
theorem ixS_bd (s : Int) : 0 ≤ ixS s ∧ ixS s < 8 := by unfold ixS; repeat' split; all_goals omega
theorem fac_bd {g : Int} (h0 : 5 ≤ g) (h1 : g ≤ 12) : 7 ≤ fac g ∧ fac g ≤ 160 := by
  have : g = 5 ∨ g = 6 ∨ g = 7 ∨ g = 8 ∨ g = 9 ∨ g = 10 ∨ g = 11 ∨ g = 12 := by omega
  rcases this with rfl | rfl | rfl | rfl | rfl | rfl | rfl | rfl <;> decide
theorem shf_bd {l : Int} (h0 : 0 ≤ l) (h1 : l ≤ 9) : 0 ≤ shf l ∧ shf l ≤ 50 := by
  have : l = 0 ∨ l = 1 ∨ l = 2 ∨ l = 3 ∨ l = 4 ∨ l = 5 ∨ l = 6 ∨ l = 7 ∨ l = 8 ∨ l = 9 := by omega
  rcases this with rfl | rfl | rfl | rfl | rfl | rfl | rfl | rfl | rfl | rfl <;> decide
theorem prod_bd {a b A B : Int} (ha : 0 ≤ a) (hA : a ≤ A) (hb : 0 ≤ b) (hB : b ≤ B) : 0 ≤ a * b ∧ a * b ≤ A * B :=
  ⟨Int.mul_nonneg ha hb, Int.mul_le_mul hA hB hb (by omega)⟩
theorem tol_bd {s g : Int} (h0 : 5 ≤ g) (h1 : g ≤ 12) : 4 ≤ tol s g ∧ tol s g ≤ 352 := by
  obtain ⟨a, b⟩ := baS_bd s; obtain ⟨c, d⟩ := fac_bd h0 h1
  have h2 := prod_bd (by omega) b (by omega) d
  have h3 : 6 * 7 ≤ baS s * fac g := Int.mul_le_mul a c (by omega) (by omega)
  unfold tol; omega
theorem sha_bd {s l : Int} (h0 : 0 ≤ l) (h1 : l ≤ 9) : 0 ≤ sha s l ∧ sha s l ≤ 110 := by
  obtain ⟨a, b⟩ := baS_bd s; obtain ⟨c, d⟩ := shf_bd h0 h1
  have h2 := prod_bd (by omega) b c d
  unfold sha; omega
theorem ix_run (s : Int) : ∃ m, ∀ W, (Instr.index 63 stepsV (.int .i64 (ixS s))).run Try.prog W = .ok (.agg #[.int .i64 m, .int .i64 (baS s)]) W := by
  unfold ixS baS
  repeat' split
  all_goals exact ⟨_, fun W => rfl⟩
theorem fac_run {g : Int} (h0 : 5 ≤ g) (h1 : g ≤ 12) : ∀ W, (Instr.index 65 facV (.int .i64 (g - 5))).run Try.prog W = .ok (.int .i64 (fac g)) W := by
  have : g = 5 ∨ g = 6 ∨ g = 7 ∨ g = 8 ∨ g = 9 ∨ g = 10 ∨ g = 11 ∨ g = 12 := by omega
  rcases this with rfl | rfl | rfl | rfl | rfl | rfl | rfl | rfl <;> exact fun W => rfl
abbrev letV : Value := .agg #[.int .i64 50, .func (.func 32) #[] #[], .int .i64 31, .func (.func 32) #[] #[], .int .i64 16, .func (.func 32) #[] #[], .int .i64 6, .func (.func 32) #[] #[], .int .i64 0, .func (.func 32) #[] #[], .int .i64 0, .func (.func 33) #[] #[], .int .i64 2, .func (.func 34) #[] #[], .int .i64 9, .func (.func 34) #[] #[], .int .i64 15, .func (.func 34) #[] #[], .int .i64 22, .func (.func 34) #[] #[]]
abbrev letC : Array Value := #[.int .i64 50, .func (.func 32) #[] #[], .int .i64 31, .func (.func 32) #[] #[], .int .i64 16, .func (.func 32) #[] #[], .int .i64 6, .func (.func 32) #[] #[], .int .i64 0, .func (.func 32) #[] #[], .int .i64 0, .func (.func 33) #[] #[], .int .i64 2, .func (.func 34) #[] #[], .int .i64 9, .func (.func 34) #[] #[], .int .i64 15, .func (.func 34) #[] #[], .int .i64 22, .func (.func 34) #[] #[]]
abbrev letZ : Array Value := #[.int .i64 0, .nilFunc, .int .i64 0, .nilFunc, .int .i64 0, .nilFunc, .int .i64 0, .nilFunc, .int .i64 0, .nilFunc, .int .i64 0, .nilFunc, .int .i64 0, .nilFunc, .int .i64 0, .nilFunc, .int .i64 0, .nilFunc, .int .i64 0, .nilFunc]
set_option maxRecDepth 100000 in
theorem letters_c (w : World) : Calls Try.prog 28 #[] w (Ret w letV) := by
  have hB : Below w.heap.size w (w.alloc (.cells letC 71)) := (Below.refl _ _).alloc (Nat.le_refl _) _
  go_enter Try.func28, Try.ntmps28
  go_upto_region 4 with fail
  rename_i K0 hK0
  refine wp_region_lit ?_
  iterate 20 (refine wpList_plain rfl fun K hK => ?_; go_simp; refine hK _ _ ?_; clear hK; clear K)
  refine wpList_build rfl 71 _ rfl (by kernel_rfl) ?_
  refine wpList_store_row rfl 71 (.tmp 0) (.tmp 24) rfl w.heap.size letC rfl (by kernel_rfl) 71 letZ (heap_alloc_new w _) (by kernel_rfl) rfl (by kernel_rfl) ?_
  rw [World.setRow_alloc_new]
  refine wpList_nil ?_
  refine hK0 _ _ (wp_ret ?_)
  refine bodyPost_ret (results_cell_row rfl _ _ w.heap.size 71 letC _ _ (by kernel_rfl) (heap_alloc_new w _) Try.underlying71 rfl (by kernel_rfl)) rfl ?_
  exact ⟨rfl, hB⟩
def letF (l : Int) : FuncId := if l ≤ 4 then 32 else if l = 5 then 33 else 34
theorem let_run {l : Int} (h0 : 0 ≤ l) (h1 : l ≤ 9) : ∀ W, (Instr.index 71 letV (.int .i64 l)).run Try.prog W = .ok (.agg #[.int .i64 (shf l), .func (.func (letF l)) #[] #[]]) W := by
  have : l = 0 ∨ l = 1 ∨ l = 2 ∨ l = 3 ∨ l = 4 ∨ l = 5 ∨ l = 6 ∨ l = 7 ∨ l = 8 ∨ l = 9 := by omega
  rcases this with rfl | rfl | rfl | rfl | rfl | rfl | rfl | rfl | rfl | rfl <;> exact fun W => rfl
set_option maxRecDepth 100000 in
set_option maxHeartbeats 2000000 in
theorem tolerance_c (s g : Int) (w : World) (hs : s ≤ 100000) (h0 : 5 ≤ g) (h1 : g ≤ 12) : Calls Try.prog 17 #[.int .i64 s, .int .i64 g] w (Ret w (.int .i64 (tol s g))) := by
  have H1 := steps_c; have H3 := factors_c
  have H2 := Lib.hid (fun W => index_c s W hs)
  obtain ⟨m, r1⟩ := ix_run s
  have r2 := fac_run h0 h1
  obtain ⟨V, hV⟩ : ∃ V, stepsV = V := ⟨_, rfl⟩
  obtain ⟨F, hF⟩ : ∃ V, facV = V := ⟨_, rfl⟩
  rw [hV] at H1 r1; rw [hF] at H3 r2
  have HS := Lib.hid H1; have HF := Lib.hid H3
  obtain ⟨a, b⟩ := baS_bd s; obtain ⟨c, d⟩ := fac_bd h0 h1
  have hp := prod_bd (show 0 ≤ baS s by omega) b (show 0 ≤ fac g by omega) d
  obtain ⟨p0, p1⟩ := hp
  have w0 : IntKind.i64.wrap (g - 5) = g - 5 := IntWalk.i64_in _ (by omega)
  have w1 : IntKind.i64.wrap (baS s * fac g) = baS s * fac g := IntWalk.i64_in _ (by omega)
  have w2 : IntKind.i64.wrap (baS s * fac g + 5) = baS s * fac g + 5 := IntWalk.i64_in _ (by omega)
  have q : (baS s * fac g + 5).tdiv 10 = tol s g := by rw [Int.tdiv_eq_ediv_of_nonneg (by omega)]; rfl
  have w3 : IntKind.i64.wrap (tol s g) = tol s g := IntWalk.i64_in _ (by have := tol_bd (s := s) h0 h1; omega)
  have r3 : ∀ (m b : Int) W, (Instr.field 62 (.agg #[.int .i64 m, .int .i64 b]) 1).run Try.prog W = .ok (.int .i64 b) W := fun m b W => rfl
  clear hV hF H1 H3 hs h0 h1
  generalize tol s g = T at *
  generalize baS s = B at *
  generalize fac g = G at *
  generalize ixS s = I at *
  obtain ⟨N, q0⟩ : ∃ v, g - 5 = v := ⟨_, rfl⟩
  have j0 := w0.trans q0
  rw [q0] at r2
  clear w0 q0
  obtain ⟨PP, q1⟩ : ∃ v, B * G = v := ⟨_, rfl⟩
  have j1 := w1.trans q1
  rw [q1] at w2 q p0 p1
  clear w1 q1
  go_enter Try.func17, Try.ntmps17
  go_wp2_with fail
  go_region_with (first | (go_at_call 25; (with_reducible refine (HS.out _).mono ?_); rintro e w1 ⟨rfl, hb1⟩) | (go_at_call 26; (with_reducible refine (H2.out _).mono ?_); rintro e w2 ⟨rfl, hb2⟩) | (go_at_call 27; (with_reducible refine (HF.out _).mono ?_); rintro e w3 ⟨rfl, hb3⟩))
  all_goals
    go_wp2
    go_ret
    exact ⟨rfl, (((Below.refl w.heap.size w).drew.trans hb1).trans (hb2.mono hb1.size)).trans (hb3.mono (Nat.le_trans hb1.size hb2.size))⟩
end Go.Proofs.Wk
