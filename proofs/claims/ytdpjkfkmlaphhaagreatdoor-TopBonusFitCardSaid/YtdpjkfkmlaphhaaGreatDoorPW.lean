/- TOLERANCE GRADES: steps of sizes, factors, letters. -/
import Derived.Test.YtdpjkfkmlaphhaaGreatDoorGI
import Derived.WalkKit
import Derived.WalkLawsBesides
import Derived.WalkSpells
import Derived.BigQuiet
import Derived.Deep.QuietTactic
import Derived.Lib.Hide
import Derived.Outline
import Derived.Handy
import Derived.Deep.DeepCutAuto
import Derived.Deep.CutBlock
import Derived.Deep.DeepFit
import Derived.Deep.LoopGhost
import Derived.Deep.RegionWith
import Derived.StillTailTactics
import Derived.LoopN
import Derived.Laws.EntriesVeiled
import Derived.Laws.Tables
import Derived.Deep.WholeRow
import Derived.Deep.RegionHeld3
namespace Go.Proofs.Wk
open Go.RowKit

/-- The index of a size's step, and its base. -/
def ixS (s : Int) : Int := if s ≤ 3000 then 0 else if s ≤ 6000 then 1 else if s ≤ 10000 then 2 else if s ≤ 18000 then 3 else if s ≤ 30000 then 4 else if s ≤ 50000 then 5 else if s ≤ 80000 then 6 else 7
def baS (s : Int) : Int := if s ≤ 3000 then 6 else if s ≤ 6000 then 8 else if s ≤ 10000 then 9 else if s ≤ 18000 then 11 else if s ≤ 30000 then 13 else if s ≤ 50000 then 16 else if s ≤ 80000 then 19 else 22
abbrev stepsV : Value := .agg #[.int .i64 3000, .int .i64 6, .int .i64 6000, .int .i64 8, .int .i64 10000, .int .i64 9, .int .i64 18000, .int .i64 11, .int .i64 30000, .int .i64 13, .int .i64 50000, .int .i64 16, .int .i64 80000, .int .i64 19, .int .i64 100000, .int .i64 22]
set_option maxRecDepth 100000 in
theorem steps_c (w : World) : Calls Tryz.prog 251 #[] w (Ret w stepsV) := by
  have hB : Below w.heap.size w (w.alloc (.cells #[.int .i64 3000, .int .i64 6, .int .i64 6000, .int .i64 8, .int .i64 10000, .int .i64 9, .int .i64 18000, .int .i64 11, .int .i64 30000, .int .i64 13, .int .i64 50000, .int .i64 16, .int .i64 80000, .int .i64 19, .int .i64 100000, .int .i64 22] 306)) := (Below.refl _ _).alloc (Nat.le_refl _) _
  go_enter Tryz.func251, Tryz.ntmps251
  go_wp2
  go_returns
  exact ⟨rfl, hB⟩
abbrev facV : Value := .agg #[.int .i64 7, .int .i64 10, .int .i64 16, .int .i64 25, .int .i64 40, .int .i64 64, .int .i64 100, .int .i64 160]
set_option maxRecDepth 100000 in
theorem factors_c (w : World) : Calls Tryz.prog 271 #[] w (Ret w facV) := by
  have hB : Below w.heap.size w (w.alloc (.cells #[.int .i64 7, .int .i64 10, .int .i64 16, .int .i64 25, .int .i64 40, .int .i64 64, .int .i64 100, .int .i64 160] 319)) := (Below.refl _ _).alloc (Nat.le_refl _) _
  go_enter Tryz.func271, Tryz.ntmps271
  go_wp2
  go_returns
  exact ⟨rfl, hB⟩
set_option maxRecDepth 100000 in
theorem index1_c (x m s : Int) (sb : Nat) (w : World) (hc : w.cell? ⟨sb, 0, none⟩ = some (.int .i64 s)) : Calls Tryz.prog 273 #[.agg #[.int .i64 m, .int .i64 x], .pointer (some ⟨sb, 0, none⟩)] w (Ret w (.bool (decide (s ≤ m)))) := by
  have hB : Below w.heap.size w (w.alloc (.cells #[.int .i64 m, .int .i64 x] 305)) := (Below.refl _ _).alloc (Nat.le_refl _) _
  have hc2 : (w.alloc (.cells #[.int .i64 m, .int .i64 x] 305)).cell? ⟨sb, 0, none⟩ = some (.int .i64 s) := by
    rw [hB.cell (p := ⟨sb, 0, none⟩) (World.block_lt_of_cell? w _ hc)]; exact hc
  clear hc
  go_enter Tryz.func273, Tryz.ntmps273
  go_wp2
  go_ret
  exact ⟨rfl, hB⟩
def mo (i : Nat) : Int := [3000, 6000, 10000, 18000, 30000, 50000, 80000, 100000].getD i 0
theorem ixS_is {s : Int} {i : Nat} (hi : i < 8) (h0 : i = 0 ∨ mo (i - 1) < s) (h1 : s ≤ mo i) : ixS s = i := by
  unfold ixS
  have : i = 0 ∨ i = 1 ∨ i = 2 ∨ i = 3 ∨ i = 4 ∨ i = 5 ∨ i = 6 ∨ i = 7 := by omega
  rcases this with rfl | rfl | rfl | rfl | rfl | rfl | rfl | rfl <;> simp [mo] at h0 h1 <;> (repeat' split) <;> omega
theorem step_cells {w : World} {b : Nat} {T : TypeId} (hR : w.heap[b]? = some (.cells #[.int .i64 3000, .int .i64 6, .int .i64 6000, .int .i64 8, .int .i64 10000, .int .i64 9, .int .i64 18000, .int .i64 11, .int .i64 30000, .int .i64 13, .int .i64 50000, .int .i64 16, .int .i64 80000, .int .i64 19, .int .i64 100000, .int .i64 22] T (0, 0))) {i : Nat} (hi : i < 8) :
    ∃ x, w.cell? ⟨b, i * 2, none⟩ = some (.int .i64 (mo i)) ∧ w.cell? ⟨b, i * 2 + 1, none⟩ = some (.int .i64 x) := by
  have : i = 0 ∨ i = 1 ∨ i = 2 ∨ i = 3 ∨ i = 4 ∨ i = 5 ∨ i = 6 ∨ i = 7 := by omega
  rcases this with rfl | rfl | rfl | rfl | rfl | rfl | rfl | rfl <;> exact ⟨_, by rw [cell_of_row _ _ _ _ _ _ hR]; rfl, by rw [cell_of_row _ _ _ _ _ _ hR]; rfl⟩
set_option maxRecDepth 100000 in
set_option maxHeartbeats 1000000 in
theorem ixF_c (b sb : Nat) (s : Int) (w : World) (hR : w.heap[b]? = some (.cells #[.int .i64 3000, .int .i64 6, .int .i64 6000, .int .i64 8, .int .i64 10000, .int .i64 9, .int .i64 18000, .int .i64 11, .int .i64 30000, .int .i64 13, .int .i64 50000, .int .i64 16, .int .i64 80000, .int .i64 19, .int .i64 100000, .int .i64 22] 306 (0, 0))) (hc : w.cell? ⟨sb, 0, none⟩ = some (.int .i64 s)) (h1 : s ≤ 100000) :
    Calls Tryz.prog 272 #[.slice (some ⟨b, 0, none⟩) 8 8, .func (.func 273) #[] #[.pointer (some ⟨sb, 0, none⟩)]] w (Ret w (.int .i64 (ixS s))) := by
  have hbl : b < w.heap.size := (Array.getElem?_eq_some_iff.1 hR).1
  have hsl : sb < w.heap.size := World.block_lt_of_cell? w _ hc
  have HR := Lib.hid hR; have HC := Lib.hid hc
  clear hR hc
  go_enter Tryz.func272, Tryz.ntmps272
  go_wp2_with fail
  go_loopw [8] (fun si wr => ∃ i : Nat, si = .int .i64 (i : Int) ∧ i ≤ 8 ∧ Hid (i = 0 ∨ mo (i - 1) < s) ∧ Below w.heap.size w wr) (fun si _ => 8 - (intOf si).toNat)
  case atStart => exact ⟨0, rfl, by omega, .inl rfl, Below.refl _ _⟩
  case round =>
    obtain ⟨i, rfl, hi, hE, hB⟩ := hrel
    by_cases hlt : i < 8
    · obtain ⟨x, k1, k2⟩ := step_cells (w := ‹World›) (by rw [hB.block b hbl]; exact HR.out) hlt
      have k3 := hB.cell (p := ⟨sb, 0, none⟩) hsl
      rw [HC.out] at k3
      have HI := Lib.hid (index1_c x (mo i) s sb _ k3)
      clear k3
      by_cases hs : s ≤ mo i
      · rw [decide_eq_true hs] at HI
        have HX := Lib.hid (ixS_is hlt hE.out hs)
        clear hE hs
        generalize mo i = m at *
        go_wp2_with fail
        ((with_reducible refine (HI.out).mono ?_); rintro e w2 ⟨rfl, hb2⟩)
        have hB2 := hB.trans (hb2.mono hB.size)
        go_wp2
        go_ret
        rw [HX.out]
        exact ⟨rfl, hB2⟩
      · rw [decide_eq_false hs] at HI
        have HX := Lib.hid (show i + 1 = 0 ∨ mo (i + 1 - 1) < s from .inr (by rw [Nat.add_sub_cancel]; omega))
        clear hE hs
        generalize mo i = m at *
        go_wp2_with fail
        ((with_reducible refine (HI.out).mono ?_); rintro e w2 ⟨rfl, hb2⟩)
        have hB2 := hB.trans (hb2.mono hB.size)
        go_wp2
        go_roundw
        case rel => exact ⟨i + 1, by go_num, by omega, HX, hB2⟩
        case measure => simp [intOf]; omega
    · exfalso
      obtain rfl : i = 8 := by omega
      have := hE.out
      simp [mo] at this
      omega
set_option maxRecDepth 100000 in
set_option maxHeartbeats 1000000 in
theorem index_c (s : Int) (w : World) (h1 : s ≤ 100000) : Calls Tryz.prog 252 #[.int .i64 s] w (Ret w (.int .i64 (ixS s))) := by
  have HS := Lib.hid (fun W => steps_c W)
  have HB := Lib.hid (show Below w.heap.size w (w.alloc (.cells #[.int .i64 s] 3)) from (Below.refl _ _).alloc (Nat.le_refl _) _)
  have HX := Lib.hid (fun b sb w hR hc => ixF_c b sb s w hR hc h1)
  clear h1
  generalize ixS s = r at *
  go_enter Tryz.func252, Tryz.ntmps252
  go_wp2_with fail
  ((with_reducible refine (HS.out _).mono ?_); rintro e w1 ⟨rfl, hb1⟩)
  have hB1 := HB.out.trans (hb1.mono (Nat.le_of_lt (alloc_lt w _)))
  have hc1 : w1.cell? ⟨w.heap.size, 0, none⟩ = some (.int .i64 s) := by
    rw [hb1.cell (p := ⟨w.heap.size, 0, none⟩) (alloc_lt w _), cell_of_row _ _ _ _ _ _ (heap_alloc_new w _)]; rfl
  have hB2 := hB1.alloc hB1.size (.cells #[.int .i64 3000, .int .i64 6, .int .i64 6000, .int .i64 8, .int .i64 10000, .int .i64 9, .int .i64 18000, .int .i64 11, .int .i64 30000, .int .i64 13, .int .i64 50000, .int .i64 16, .int .i64 80000, .int .i64 19, .int .i64 100000, .int .i64 22] 306)
  have hc2 : (w1.alloc (.cells #[.int .i64 3000, .int .i64 6, .int .i64 6000, .int .i64 8, .int .i64 10000, .int .i64 9, .int .i64 18000, .int .i64 11, .int .i64 30000, .int .i64 13, .int .i64 50000, .int .i64 16, .int .i64 80000, .int .i64 19, .int .i64 100000, .int .i64 22] 306)).cell? ⟨w.heap.size, 0, none⟩ = some (.int .i64 s) := by
    rw [((Below.refl w1.heap.size w1).alloc (Nat.le_refl _) (.cells #[.int .i64 3000, .int .i64 6, .int .i64 6000, .int .i64 8, .int .i64 10000, .int .i64 9, .int .i64 18000, .int .i64 11, .int .i64 30000, .int .i64 13, .int .i64 50000, .int .i64 16, .int .i64 80000, .int .i64 19, .int .i64 100000, .int .i64 22] 306)).cell (p := ⟨w.heap.size, 0, none⟩) (World.block_lt_of_cell? w1 _ hc1)]; exact hc1
  have HH := Lib.hid (HX.out w1.heap.size w.heap.size _ (heap_alloc_new w1 _) hc2)
  clear hb1 hc1 hc2 HX
  go_wp2_with fail
  ((with_reducible refine (HH.out).mono ?_); rintro e w2 ⟨rfl, hb2⟩)
  have hB3 := hB2.trans (hb2.mono hB2.size)
  go_wp2
  go_ret
  exact ⟨rfl, hB3⟩
end Go.Proofs.Wk
/- TOLERANCE GRADES: tolerances and deviations. -/
namespace Go.Proofs.Wk
open Go.RowKit

def fac (g : Int) : Int := [7, 10, 16, 25, 40, 64, 100, 160].getD (g - 5).toNat 0
def shf (l : Int) : Int := [50, 31, 16, 6, 0, 0, 2, 9, 15, 22].getD l.toNat 0
/-- The tolerance of a grade for a size. -/
def tol (s g : Int) : Int := (baS s * fac g + 5) / 10
def sha (s l : Int) : Int := baS s * shf l / 10
theorem baS_bd (s : Int) : 6 ≤ baS s ∧ baS s ≤ 22 := by unfold baS; repeat' split; all_goals omega
theorem ixS_bd (s : Int) : 0 ≤ ixS s ∧ ixS s < 8 := by unfold ixS; repeat' split; all_goals omega
theorem fac_bd {g : Int} (h0 : 5 ≤ g) (h1 : g ≤ 12) : 7 ≤ fac g ∧ fac g ≤ 160 := by
  have : g = 5 ∨ g = 6 ∨ g = 7 ∨ g = 8 ∨ g = 9 ∨ g = 10 ∨ g = 11 ∨ g = 12 := by omega
  rcases this with rfl | rfl | rfl | rfl | rfl | rfl | rfl | rfl <;> decide
theorem shf_bd {l : Int} (h0 : 0 ≤ l) (h1 : l ≤ 9) : 0 ≤ shf l ∧ shf l ≤ 50 := by
  have : l = 0 ∨ l = 1 ∨ l = 2 ∨ l = 3 ∨ l = 4 ∨ l = 5 ∨ l = 6 ∨ l = 7 ∨ l = 8 ∨ l = 9 := by omega
  rcases this with rfl | rfl | rfl | rfl | rfl | rfl | rfl | rfl | rfl | rfl <;> decide
theorem prod_bd {a b A B : Int} (ha : 0 ≤ a) (hA : a ≤ A) (hb : 0 ≤ b) (hB : b ≤ B) : 0 ≤ a * b ∧ a * b ≤ A * B :=
  ⟨Int.mul_nonneg ha hb, Int.mul_le_mul hA hB hb (by omega)⟩
theorem tol_bd {s g : Int} (h0 : 5 ≤ g) (h1 : g ≤ 12) : 4 ≤ tol s g ∧ tol s g ≤ 352 := by
  obtain ⟨a, b⟩ := baS_bd s; obtain ⟨c, d⟩ := fac_bd h0 h1
  have h2 := prod_bd (by omega) b (by omega) d
  have h3 : 6 * 7 ≤ baS s * fac g := Int.mul_le_mul a c (by omega) (by omega)
  unfold tol; omega
theorem sha_bd {s l : Int} (h0 : 0 ≤ l) (h1 : l ≤ 9) : 0 ≤ sha s l ∧ sha s l ≤ 110 := by
  obtain ⟨a, b⟩ := baS_bd s; obtain ⟨c, d⟩ := shf_bd h0 h1
  have h2 := prod_bd (by omega) b c d
  unfold sha; omega
set_option maxRecDepth 100000 in
theorem ix_run (s : Int) : ∃ m, ∀ W, (Instr.index 306 stepsV (.int .i64 (ixS s))).run Tryz.prog W = .ok (.agg #[.int .i64 m, .int .i64 (baS s)]) W := by
  unfold ixS baS
  repeat' split
  all_goals exact ⟨_, fun W => rfl⟩
set_option maxRecDepth 100000 in
theorem fac_run {g : Int} (h0 : 5 ≤ g) (h1 : g ≤ 12) : ∀ W, (Instr.index 319 facV (.int .i64 (g - 5))).run Tryz.prog W = .ok (.int .i64 (fac g)) W := by
  have : g = 5 ∨ g = 6 ∨ g = 7 ∨ g = 8 ∨ g = 9 ∨ g = 10 ∨ g = 11 ∨ g = 12 := by omega
  rcases this with rfl | rfl | rfl | rfl | rfl | rfl | rfl | rfl <;> exact fun W => rfl
abbrev letV : Value := .agg #[.int .i64 50, .func (.func 268) #[] #[], .int .i64 31, .func (.func 268) #[] #[], .int .i64 16, .func (.func 268) #[] #[], .int .i64 6, .func (.func 268) #[] #[], .int .i64 0, .func (.func 268) #[] #[], .int .i64 0, .func (.func 269) #[] #[], .int .i64 2, .func (.func 270) #[] #[], .int .i64 9, .func (.func 270) #[] #[], .int .i64 15, .func (.func 270) #[] #[], .int .i64 22, .func (.func 270) #[] #[]]
abbrev letC : Array Value := #[.int .i64 50, .func (.func 268) #[] #[], .int .i64 31, .func (.func 268) #[] #[], .int .i64 16, .func (.func 268) #[] #[], .int .i64 6, .func (.func 268) #[] #[], .int .i64 0, .func (.func 268) #[] #[], .int .i64 0, .func (.func 269) #[] #[], .int .i64 2, .func (.func 270) #[] #[], .int .i64 9, .func (.func 270) #[] #[], .int .i64 15, .func (.func 270) #[] #[], .int .i64 22, .func (.func 270) #[] #[]]
abbrev letZ : Array Value := #[.int .i64 0, .nilFunc, .int .i64 0, .nilFunc, .int .i64 0, .nilFunc, .int .i64 0, .nilFunc, .int .i64 0, .nilFunc, .int .i64 0, .nilFunc, .int .i64 0, .nilFunc, .int .i64 0, .nilFunc, .int .i64 0, .nilFunc, .int .i64 0, .nilFunc]
set_option maxRecDepth 100000 in
theorem letters_c (w : World) : Calls Tryz.prog 249 #[] w (Ret w letV) := by
  have hB : Below w.heap.size w (w.alloc (.cells letC 302)) := (Below.refl _ _).alloc (Nat.le_refl _) _
  go_enter Tryz.func249, Tryz.ntmps249
  go_upto_region 4 with fail
  rename_i K0 hK0
  refine wp_region_lit ?_
  iterate 20 (refine wpList_plain rfl fun K hK => ?_; go_simp; refine hK _ _ ?_; clear hK; clear K)
  refine wpList_build rfl 302 _ rfl (by kernel_rfl) ?_
  refine wpList_store_row rfl 302 (.tmp 0) (.tmp 24) rfl w.heap.size letC rfl (by kernel_rfl) 302 letZ (heap_alloc_new w _) (by kernel_rfl) rfl (by kernel_rfl) ?_
  rw [World.setRow_alloc_new]
  refine wpList_nil ?_
  refine hK0 _ _ (wp_ret ?_)
  refine bodyPost_ret (results_cell_row rfl _ _ w.heap.size 302 letC _ _ (by kernel_rfl) (heap_alloc_new w _) Tryz.underlying302 rfl (by kernel_rfl)) rfl ?_
  exact ⟨rfl, hB⟩
def letF (l : Int) : FuncId := if l ≤ 4 then 268 else if l = 5 then 269 else 270
set_option maxRecDepth 100000 in
theorem let_run {l : Int} (h0 : 0 ≤ l) (h1 : l ≤ 9) : ∀ W, (Instr.index 302 letV (.int .i64 l)).run Tryz.prog W = .ok (.agg #[.int .i64 (shf l), .func (.func (letF l)) #[] #[]]) W := by
  have : l = 0 ∨ l = 1 ∨ l = 2 ∨ l = 3 ∨ l = 4 ∨ l = 5 ∨ l = 6 ∨ l = 7 ∨ l = 8 ∨ l = 9 := by omega
  rcases this with rfl | rfl | rfl | rfl | rfl | rfl | rfl | rfl | rfl | rfl <;> exact fun W => rfl
set_option maxRecDepth 100000 in
set_option maxHeartbeats 2000000 in
theorem tolerance_c (s g : Int) (w : World) (hs : s ≤ 100000) (h0 : 5 ≤ g) (h1 : g ≤ 12) : Calls Tryz.prog 250 #[.int .i64 s, .int .i64 g] w (Ret w (.int .i64 (tol s g))) := by
  have H1 := steps_c; have H3 := factors_c
  have H2 := Lib.hid (fun W => index_c s W hs)
  obtain ⟨m, r1⟩ := ix_run s
  have r2 := fac_run h0 h1
  obtain ⟨V, hV⟩ : ∃ V, stepsV = V := ⟨_, rfl⟩
  obtain ⟨F, hF⟩ : ∃ V, facV = V := ⟨_, rfl⟩
  rw [hV] at H1 r1; rw [hF] at H3 r2
  have HS := Lib.hid H1; have HF := Lib.hid H3
  obtain ⟨a, b⟩ := baS_bd s; obtain ⟨c, d⟩ := fac_bd h0 h1
  have hp := prod_bd (show 0 ≤ baS s by omega) b (show 0 ≤ fac g by omega) d
  obtain ⟨p0, p1⟩ := hp
  have w0 : IntKind.i64.wrap (g - 5) = g - 5 := IntWalk.i64_in _ (by omega)
  have w1 : IntKind.i64.wrap (baS s * fac g) = baS s * fac g := IntWalk.i64_in _ (by omega)
  have w2 : IntKind.i64.wrap (baS s * fac g + 5) = baS s * fac g + 5 := IntWalk.i64_in _ (by omega)
  have q : (baS s * fac g + 5).tdiv 10 = tol s g := by rw [Int.tdiv_eq_ediv_of_nonneg (by omega)]; rfl
  have w3 : IntKind.i64.wrap (tol s g) = tol s g := IntWalk.i64_in _ (by have := tol_bd (s := s) h0 h1; omega)
  have r3 : ∀ (m b : Int) W, (Instr.field 305 (.agg #[.int .i64 m, .int .i64 b]) 1).run Tryz.prog W = .ok (.int .i64 b) W := fun m b W => rfl
  clear hV hF H1 H3 hs h0 h1
  generalize tol s g = T at *
  generalize baS s = B at *
  generalize fac g = G at *
  generalize ixS s = I at *
  obtain ⟨N, q0⟩ : ∃ v, g - 5 = v := ⟨_, rfl⟩
  have j0 := w0.trans q0
  rw [q0] at r2
  clear w0 q0
  obtain ⟨PP, q1⟩ : ∃ v, B * G = v := ⟨_, rfl⟩
  have j1 := w1.trans q1
  rw [q1] at w2 q p0 p1
  clear w1 q1
  go_enter Tryz.func250, Tryz.ntmps250
  go_wp2_with fail
  go_region_with (first | (go_at_call 251; (with_reducible refine (HS.out _).mono ?_); rintro e w1 ⟨rfl, hb1⟩) | (go_at_call 252; (with_reducible refine (H2.out _).mono ?_); rintro e w2 ⟨rfl, hb2⟩) | (go_at_call 271; (with_reducible refine (HF.out _).mono ?_); rintro e w3 ⟨rfl, hb3⟩))
  all_goals
    go_wp2
    go_ret
    exact ⟨rfl, (((Below.refl w.heap.size w).drew.trans hb1).trans (hb2.mono hb1.size)).trans (hb3.mono (Nat.le_trans hb1.size hb2.size))⟩
end Go.Proofs.Wk
/- TOLERANCE GRADES: the deviations of a class. -/
namespace Go.Proofs.Wk
open Go.RowKit

abbrev lim (p : Int × Int) : Value := .agg #[.int .i64 p.1, .int .i64 p.2]
/-- The deviations by the tolerance and the shift. -/
def dev3 (l T S : Int) : Int × Int := if l ≤ 4 then (-S - T, -S) else if l = 5 then (-(T / 2), T / 2) else (S, S + T)
set_option maxRecDepth 100000 in
theorem rule1 (T S : Int) (w : World) (t0 : 0 ≤ T) (t1 : T ≤ 1000) (s0 : 0 ≤ S) (s1 : S ≤ 1000) : Calls Tryz.prog 268 #[.int .i64 T, .int .i64 S] w (Ret w (lim (-S - T, -S))) := by
  have hB : Below w.heap.size w (w.alloc (.cells #[.int .i64 (-S - T), .int .i64 (-S)] 25)) := (Below.refl _ _).alloc (Nat.le_refl _) _
  have k1 : IntKind.i64.wrap (-S) = -S := IntWalk.i64_in _ (by omega)
  have k2 : IntKind.i64.wrap (-S - T) = -S - T := IntWalk.i64_in _ (by omega)
  clear t0 t1 s0 s1
  go_enter Tryz.func268, Tryz.ntmps268
  go_wp2
  go_returns
  exact ⟨rfl, hB⟩
set_option maxRecDepth 100000 in
theorem rule2 (T S : Int) (w : World) (t0 : 0 ≤ T) (t1 : T ≤ 1000) : Calls Tryz.prog 269 #[.int .i64 T, .int .i64 S] w (Ret w (lim (-(T / 2), T / 2))) := by
  have hB : Below w.heap.size w (w.alloc (.cells #[.int .i64 (-(T / 2)), .int .i64 (T / 2)] 25)) := (Below.refl _ _).alloc (Nat.le_refl _) _
  have k0 : T.tdiv 2 = T / 2 := Int.tdiv_eq_ediv_of_nonneg t0
  have k1 : IntKind.i64.wrap (T / 2) = T / 2 := IntWalk.i64_in _ (by omega)
  have k2 : IntKind.i64.wrap (-(T / 2)) = -(T / 2) := IntWalk.i64_in _ (by omega)
  clear t1
  go_enter Tryz.func269, Tryz.ntmps269
  go_wp2
  go_returns
  exact ⟨rfl, hB⟩
set_option maxRecDepth 100000 in
theorem rule3 (T S : Int) (w : World) (t0 : 0 ≤ T) (t1 : T ≤ 1000) (s0 : 0 ≤ S) (s1 : S ≤ 1000) : Calls Tryz.prog 270 #[.int .i64 T, .int .i64 S] w (Ret w (lim (S, S + T))) := by
  have hB : Below w.heap.size w (w.alloc (.cells #[.int .i64 S, .int .i64 (S + T)] 25)) := (Below.refl _ _).alloc (Nat.le_refl _) _
  have k1 : IntKind.i64.wrap (S + T) = S + T := IntWalk.i64_in _ (by omega)
  clear t0 t1 s0 s1
  go_enter Tryz.func270, Tryz.ntmps270
  go_wp2
  go_returns
  exact ⟨rfl, hB⟩
/-- A class, the result's block, a letter's block, and what was there before. -/
structure DV (w0 : World) (b : Nat) (h : Bool) (l g : Int) (w : World) : Prop where
  c : w.heap[b]? = some (.cells #[.bool h, .int .i64 l, .int .i64 g] 67 (0, 0))
  r : w.heap[b + 1]? = some (.cells #[.int .i64 0, .int .i64 0] 25 (0, 0))
  w : Below w0.heap.size w0 w
  s : w0.heap.size ≤ b
theorem DV.later {w0 : World} {b : Nat} {h : Bool} {l g : Int} {w w' : World} (j : DV w0 b h l g w) (hb : Below w.heap.size w w') : DV w0 b h l g w' :=
  ⟨by rw [hb.block b (Array.getElem?_eq_some_iff.1 j.c).1]; exact j.c, by rw [hb.block (b + 1) (Array.getElem?_eq_some_iff.1 j.r).1]; exact j.r, j.w.trans (hb.mono j.w.size), j.s⟩
theorem DV.alloc {w0 : World} {b : Nat} {h : Bool} {l g : Int} {w : World} (j : DV w0 b h l g w) (o : Obj) : DV w0 b h l g (w.alloc o) := j.later ((Below.refl _ _).alloc (Nat.le_refl _) o)
theorem DV.drew {w0 : World} {b : Nat} {h : Bool} {l g : Int} {w : World} (j : DV w0 b h l g w) : DV w0 b h l g w.drew := j.later (Below.refl _ _).drew
theorem DV.c0 {w0 : World} {b : Nat} {h : Bool} {l g : Int} {w : World} (j : DV w0 b h l g w) : w.cell? ⟨b, 0, none⟩ = some (.bool h) := by rw [cell_of_row _ _ _ _ _ _ j.c]; rfl
theorem DV.c1 {w0 : World} {b : Nat} {h : Bool} {l g : Int} {w : World} (j : DV w0 b h l g w) : w.cell? ⟨b, 1, none⟩ = some (.int .i64 l) := by rw [cell_of_row _ _ _ _ _ _ j.c]; rfl
theorem DV.c2 {w0 : World} {b : Nat} {h : Bool} {l g : Int} {w : World} (j : DV w0 b h l g w) : w.cell? ⟨b, 2, none⟩ = some (.int .i64 g) := by rw [cell_of_row _ _ _ _ _ _ j.c]; rfl
theorem DV.new (w0 : World) (h : Bool) (l g : Int) : DV w0 w0.heap.size h l g ((w0.alloc (.cells #[.bool h, .int .i64 l, .int .i64 g] 67)).alloc (.cells #[.int .i64 0, .int .i64 0] 25)) := by
  have b1 : Below w0.heap.size w0 (w0.alloc (.cells #[.bool h, .int .i64 l, .int .i64 g] 67)) := (Below.refl _ _).alloc (Nat.le_refl _) _
  have b2 : Below (w0.alloc (.cells #[.bool h, .int .i64 l, .int .i64 g] 67)).heap.size (w0.alloc (.cells #[.bool h, .int .i64 l, .int .i64 g] 67)) ((w0.alloc (.cells #[.bool h, .int .i64 l, .int .i64 g] 67)).alloc (.cells #[.int .i64 0, .int .i64 0] 25)) := (Below.refl _ _).alloc (Nat.le_refl _) _
  have h1 := heap_alloc_new w0 (.cells #[.bool h, .int .i64 l, .int .i64 g] 67)
  have h2 := heap_alloc_new (w0.alloc (.cells #[.bool h, .int .i64 l, .int .i64 g] 67)) (.cells #[.int .i64 0, .int .i64 0] 25)
  rw [show (w0.alloc (.cells #[.bool h, .int .i64 l, .int .i64 g] 67)).heap.size = w0.heap.size + 1 by simp] at h2
  exact ⟨by rw [b2.block w0.heap.size (alloc_lt w0 _)]; exact h1, h2, b1.trans (b2.mono b1.size), Nat.le_refl _⟩
/-- The deviations of a class. -/
def devz (h : Bool) (s l g : Int) : Int × Int := if h then (-(dev3 l (tol s g) (sha s l)).2, -(dev3 l (tol s g) (sha s l)).1) else dev3 l (tol s g) (sha s l)
theorem dev3_bd {l T S : Int} (t0 : 0 ≤ T) (t1 : T ≤ 352) (s0 : 0 ≤ S) (s1 : S ≤ 110) : (-1000 ≤ (dev3 l T S).1 ∧ (dev3 l T S).1 ≤ 1000) ∧ (-1000 ≤ (dev3 l T S).2 ∧ (dev3 l T S).2 ≤ 1000) := by
  unfold dev3; repeat' split
  all_goals (simp only; omega)

/-- The rule of a letter. -/
theorem rule_c {l : Int} (T S : Int) (w : World) (t0 : 0 ≤ T) (t1 : T ≤ 1000) (s0 : 0 ≤ S) (s1 : S ≤ 1000) : Calls Tryz.prog (letF l) #[.int .i64 T, .int .i64 S] w (Ret w (lim (dev3 l T S))) := by
  unfold letF dev3
  by_cases h1 : l ≤ 4
  · rw [if_pos h1, if_pos h1]; exact rule1 T S w t0 t1 s0 s1
  · rw [if_neg h1, if_neg h1]
    by_cases h2 : l = 5
    · rw [if_pos h2, if_pos h2]; exact rule2 T S w t0 t1
    · rw [if_neg h2, if_neg h2]; exact rule3 T S w t0 t1 s0 s1
theorem fresh_later {w w' : World} {o : Obj} (h : Below (w.alloc o).drew.heap.size (w.alloc o).drew w') : w'.heap[w.heap.size]? = some o := (h.block _ (alloc_lt w o)).trans (heap_alloc_new w o)
/-- With the letter's block. -/
structure DX (w0 : World) (b : Nat) (h : Bool) (l g : Int) (x : Nat) (G : Int) (f : FuncId) (w : World) : Prop where
  d : DV w0 b h l g w
  x : w.heap[x]? = some (.cells #[.int .i64 G, .func (.func f) #[] #[]] 301 (0, 0))
theorem DX.later {w0 : World} {b : Nat} {h : Bool} {l g : Int} {x : Nat} {G : Int} {f : FuncId} {w w' : World} (j : DX w0 b h l g x G f w) (hb : Below w.heap.size w w') : DX w0 b h l g x G f w' :=
  ⟨j.d.later hb, by rw [hb.block x (Array.getElem?_eq_some_iff.1 j.x).1]; exact j.x⟩
theorem DX.alloc {w0 : World} {b : Nat} {h : Bool} {l g : Int} {x : Nat} {G : Int} {f : FuncId} {w : World} (j : DX w0 b h l g x G f w) (o : Obj) : DX w0 b h l g x G f (w.alloc o) := j.later ((Below.refl _ _).alloc (Nat.le_refl _) o)
theorem DX.drew {w0 : World} {b : Nat} {h : Bool} {l g : Int} {x : Nat} {G : Int} {f : FuncId} {w : World} (j : DX w0 b h l g x G f w) : DX w0 b h l g x G f w.drew := j.later (Below.refl _ _).drew
theorem DX.x0 {w0 : World} {b : Nat} {h : Bool} {l g : Int} {x : Nat} {G : Int} {f : FuncId} {w : World} (j : DX w0 b h l g x G f w) : w.cell? ⟨x, 0, none⟩ = some (.int .i64 G) := by rw [cell_of_row _ _ _ _ _ _ j.x]; rfl
theorem DX.x1 {w0 : World} {b : Nat} {h : Bool} {l g : Int} {x : Nat} {G : Int} {f : FuncId} {w : World} (j : DX w0 b h l g x G f w) : w.cell? ⟨x, 1, none⟩ = some (.func (.func f) #[] #[]) := by rw [cell_of_row _ _ _ _ _ _ j.x]; rfl
theorem DV.put {w0 : World} {b : Nat} {h : Bool} {l g : Int} {w : World} (j : DV w0 b h l g w) {x : Nat} (hx : b + 1 < x) (i : Nat) (v : Value) : DV w0 b h l g (w.setCell ⟨x, i, none⟩ v) :=
  ⟨by rw [Below.heap_setCell _ _ _ _ (by show b ≠ x; omega)]; exact j.c, by rw [Below.heap_setCell _ _ _ _ (by show b + 1 ≠ x; omega)]; exact j.r, j.w.setCell (by show w0.heap.size ≤ x; have := j.s; omega) v, j.s⟩
theorem DX.put {w0 : World} {b : Nat} {h : Bool} {l g : Int} {w : World} (j : DV w0 b h l g w) {x : Nat} (hx : b + 1 < x) (G : Int) (f : FuncId) (k : w.heap[x]? = some (.cells #[.int .i64 0, .nilFunc] 301 (0, 0))) :
    DX w0 b h l g x G f ((w.setCell ⟨x, 0, none⟩ (.int .i64 G)).setCell ⟨x, 1, none⟩ (.func (.func f) #[] #[])) :=
  ⟨(j.put hx 0 _).put hx 1 _, heap_setCell_same _ x 1 _ _ _ (heap_setCell_same w x 0 _ _ (.int .i64 G) k)⟩
theorem DX.new {w0 : World} {b : Nat} {h : Bool} {l g : Int} {w : World} (j : DV w0 b h l g w) {x : Nat} (G : Int) (f : FuncId) (e : x = w.heap.size) :
    DX w0 b h l g x G f (w.alloc (.cells #[.int .i64 G, .func (.func f) #[] #[]] 301)) := ⟨j.alloc _, by rw [e]; exact heap_alloc_new _ _⟩
/-- The block of the limits, before and after. -/
structure DY (b x y : Nat) (A B : Int) (w : World) : Prop where
  row : w.heap[y]? = some (.cells #[.int .i64 A, .int .i64 B] 25 (0, 0))
  hb : b + 1 < y
  hx : x < y
theorem DY.new {w0 : World} {b : Nat} {h : Bool} {l g : Int} {x : Nat} {G : Int} {f : FuncId} {w w' : World} (j : DX w0 b h l g x G f w) (hb : Below (w.alloc (.cells #[.int .i64 0, .int .i64 0] 25)).heap.size (w.alloc (.cells #[.int .i64 0, .int .i64 0] 25)) w') : DY b x w.heap.size 0 0 w' :=
  ⟨(hb.block _ (alloc_lt w _)).trans (heap_alloc_new w _), (Array.getElem?_eq_some_iff.1 j.d.r).1, (Array.getElem?_eq_some_iff.1 j.x).1⟩
theorem DY.newd {w0 : World} {b : Nat} {h : Bool} {l g : Int} {x : Nat} {G : Int} {f : FuncId} {w w' : World} (j : DX w0 b h l g x G f w) (hb : Below (w.alloc (.cells #[.int .i64 0, .int .i64 0] 25)).drew.heap.size (w.alloc (.cells #[.int .i64 0, .int .i64 0] 25)).drew w') : DY b x w.heap.size 0 0 w' :=
  ⟨(hb.block _ (alloc_lt w _)).trans (heap_alloc_new w _), (Array.getElem?_eq_some_iff.1 j.d.r).1, (Array.getElem?_eq_some_iff.1 j.x).1⟩
theorem DY.fresh {w0 : World} {b : Nat} {h : Bool} {l g : Int} {x : Nat} {G : Int} {f : FuncId} {w : World} (j : DX w0 b h l g x G f w) (A B : Int) : DY b x w.heap.size A B (w.alloc (.cells #[.int .i64 A, .int .i64 B] 25)) :=
  ⟨heap_alloc_new w _, (Array.getElem?_eq_some_iff.1 j.d.r).1, (Array.getElem?_eq_some_iff.1 j.x).1⟩
theorem DY.later {b x y : Nat} {A B : Int} {w w' : World} (k : DY b x y A B w) (hb : Below w.heap.size w w') : DY b x y A B w' := ⟨(hb.block y (Array.getElem?_eq_some_iff.1 k.row).1).trans k.row, k.hb, k.hx⟩
theorem DY.c {b x y : Nat} {A B : Int} {w : World} (k : DY b x y A B w) : w.cell? ⟨y, 0, none⟩ = some (.int .i64 A) ∧ w.cell? ⟨y, 1, none⟩ = some (.int .i64 B) ∧ w.frozen? ⟨y, 0, none⟩ = false ∧ w.frozen? ⟨y, 1, none⟩ = false :=
  ⟨by rw [cell_of_row _ _ _ _ _ _ k.row]; rfl, by rw [cell_of_row _ _ _ _ _ _ k.row]; rfl, frozen_of_row _ _ _ _ _ k.row, frozen_of_row _ _ _ _ _ k.row⟩
theorem DX.sc {w0 : World} {b : Nat} {h : Bool} {l g : Int} {x : Nat} {G : Int} {f : FuncId} {w : World} (j : DX w0 b h l g x G f w) {y : Nat} {A B : Int} {w1 : World} (k : DY b x y A B w1) (i : Nat) (v : Value) : DX w0 b h l g x G f (w.setCell ⟨y, i, none⟩ v) :=
  ⟨j.d.put k.hb i v, by rw [Below.heap_setCell _ _ _ _ (by show x ≠ y; have := k.hx; omega)]; exact j.x⟩
theorem DY.put {b x y : Nat} {w : World} (k : DY b x y 0 0 w) (A B : Int) : DY b x y A B ((w.setCell ⟨y, 0, none⟩ (.int .i64 A)).setCell ⟨y, 1, none⟩ (.int .i64 B)) :=
  ⟨heap_setCell_same _ y 1 _ _ _ (heap_setCell_same w y 0 _ _ (.int .i64 A) k.row), k.hb, k.hx⟩
theorem DV.rc {w0 : World} {b : Nat} {h : Bool} {l g : Int} {w : World} (j : DV w0 b h l g w) : w.cell? ⟨b + 1, 0, none⟩ = some (.int .i64 0) ∧ w.cell? ⟨b + 1, 1, none⟩ = some (.int .i64 0) ∧ w.frozen? ⟨b + 1, 0, none⟩ = false ∧ w.frozen? ⟨b + 1, 1, none⟩ = false :=
  ⟨by rw [cell_of_row _ _ _ _ _ _ j.r]; rfl, by rw [cell_of_row _ _ _ _ _ _ j.r]; rfl, frozen_of_row _ _ _ _ _ j.r, frozen_of_row _ _ _ _ _ j.r⟩
set_option maxRecDepth 100000 in
set_option maxHeartbeats 4000000 in
theorem deviations1 (h : Bool) (s l g : Int) (w : World) (hs : s ≤ 100000) (l0 : 0 ≤ l) (l1 : l ≤ 9) (hl : l ≤ 4) (g0 : 5 ≤ g) (g1 : g ≤ 12) :
    Calls Tryz.prog 216 #[.int .i64 s, .agg #[.bool h, .int .i64 l, .int .i64 g]] w (Ret w (lim (devz h s l g))) := by
  have H0 := letters_c; have H1 := steps_c
  have H2 := Lib.hid (fun W => index_c s W hs)
  have HT := Lib.hid (fun W => tolerance_c s g W hs g0 g1)
  obtain ⟨m, r1⟩ := ix_run s
  have r2 := let_run l0 l1
  have hf : letF l = 268 := by unfold letF; rw [if_pos hl]
  rw [hf] at r2
  have r3 : ∀ (m b : Int) W, (Instr.field 305 (.agg #[.int .i64 m, .int .i64 b]) 1).run Tryz.prog W = .ok (.int .i64 b) W := fun m b W => rfl
  obtain ⟨tb0, tb1⟩ := tol_bd (s := s) g0 g1
  obtain ⟨sb0, sb1⟩ := sha_bd (s := s) l0 l1
  have HR := Lib.hid (fun W => rule_c (l := l) (tol s g) (sha s l) W (by omega) (by omega) (by omega) (by omega))
  rw [hf] at HR
  have hd3 := dev3_bd (l := l) (show 0 ≤ tol s g by omega) tb1 sb0 sb1
  obtain ⟨V, hV⟩ : ∃ V, stepsV = V := ⟨_, rfl⟩
  obtain ⟨F, hF⟩ : ∃ V, letV = V := ⟨_, rfl⟩
  rw [hV] at H1 r1; rw [hF] at H0 r2
  have HS := Lib.hid H1; have HF := Lib.hid H0
  obtain ⟨a, b⟩ := baS_bd s; obtain ⟨c, d⟩ := shf_bd l0 l1
  obtain ⟨p0, p1⟩ := prod_bd (show 0 ≤ baS s by omega) b c d
  have w1 : IntKind.i64.wrap (baS s * shf l) = baS s * shf l := IntWalk.i64_in _ (by omega)
  have q : baS s * shf l / 10 = sha s l := rfl
  have w3 : IntKind.i64.wrap (sha s l) = sha s l := IntWalk.i64_in _ (by omega)
  unfold devz
  generalize dev3 l (tol s g) (sha s l) = D at *
  obtain ⟨D1, D2⟩ := D
  simp only at hd3
  obtain ⟨⟨x0, x1⟩, x2, x3⟩ := hd3
  have y1 : IntKind.i64.wrap (-D1) = -D1 := IntWalk.i64_in _ (by omega)
  have y2 : IntKind.i64.wrap (-D2) = -D2 := IntWalk.i64_in _ (by omega)
  clear hV hF H0 H1 hs l0 l1 hl hf g0 g1 x0 x1 x2 x3
  generalize tol s g = T at *
  generalize sha s l = S at *
  generalize baS s = B at *
  generalize shf l = G at *
  generalize ixS s = I at *
  obtain ⟨PP, q1⟩ : ∃ v, B * G = v := ⟨_, rfl⟩
  have j1 := w1.trans q1
  rw [q1] at q p0 p1
  clear w1 q1
  have q2 : PP.tdiv 10 = S := by rw [Int.tdiv_eq_ediv_of_nonneg p0]; exact q
  have JN := DV.new w h l g
  go_enter Tryz.func216, Tryz.ntmps216
  have e2 : ((w.alloc (.cells #[.bool h, .int .i64 l, .int .i64 g] 67)).alloc (.cells #[.int .i64 0, .int .i64 0] 25)).heap.size = w.heap.size + 1 + 1 := by simp
  go_upto_region 1 with fail
  go_cut [5] (fun s5 wx => ∃ x, s5 = .pointer (some ⟨x, 0, none⟩) ∧ DX w w.heap.size h l g x G 268 wx)
  case first =>
    go_region_held3 (fun w' => w'.cell? ⟨w.heap.size, 1, none⟩ = some (.int .i64 l) ∧ DV w w.heap.size h l g w') (first | exact ⟨J'.c1, J'⟩ | exact ⟨(J'.alloc _).c1, J'.alloc _⟩ | exact ⟨((J'.put (x := w.heap.size + 2) (Nat.lt_succ_self _) _ _).put (x := w.heap.size + 2) (Nat.lt_succ_self _) _ _).c1, (J'.put (x := w.heap.size + 2) (Nat.lt_succ_self _) _ _).put (x := w.heap.size + 2) (Nat.lt_succ_self _) _ _⟩ | exact ⟨(JN.drew.alloc _).c1, (JN.drew.alloc _)⟩ | exact ⟨JN.drew.c1, JN.drew⟩ | exact ⟨JN.c1, JN⟩)
      (first | (go_at_call 249; (with_reducible refine (HF.out _).mono ?_); rintro e w' ⟨rfl, hb'⟩; have J' := DV.later (by first | assumption | exact And.right (by assumption)) hb'; (try (have K2 := fresh_later hb'; rw [e2] at K2; have K0 := cell_of_row _ _ 0 _ _ _ K2; have K1 := cell_of_row _ _ 1 _ _ _ K2; have F0 := frozen_of_row _ _ 0 _ _ K2; have F1 := frozen_of_row _ _ 1 _ _ K2))))
    all_goals (go_wp2_with fail; go_meet)
    all_goals first | exact ⟨_, rfl, DX.new J' G 268 rfl⟩ | exact ⟨_, rfl, DX.put J' (by omega) G 268 K2⟩
  case rest =>
    obtain ⟨x, rfl, J⟩ := hcut
    clear JN e2
    go_upto_region 2 with fail
    go_cut [6] (fun s6 wy => ∃ y, s6 = .pointer (some ⟨y, 0, none⟩) ∧ DX w w.heap.size h l g x G 268 wy ∧ DY w.heap.size x y D1 D2 wy)
    case first =>
      go_region_held3 (fun w' => w'.cell? ⟨w.heap.size, 2, none⟩ = some (.int .i64 g) ∧ w'.cell? ⟨x, 0, none⟩ = some (.int .i64 G) ∧ w'.cell? ⟨x, 1, none⟩ = some (.func (.func 268) #[] #[]) ∧ DX w w.heap.size h l g x G 268 w') (first | exact ⟨J'.d.c2, J'.x0, J'.x1, J'⟩ | exact ⟨(J'.alloc _).d.c2, (J'.alloc _).x0, (J'.alloc _).x1, J'.alloc _⟩ | exact ⟨((J'.sc K2 _ _).sc K2 _ _).d.c2, ((J'.sc K2 _ _).sc K2 _ _).x0, ((J'.sc K2 _ _).sc K2 _ _).x1, (J'.sc K2 _ _).sc K2 _ _⟩ | exact ⟨(J.alloc _).drew.d.c2, (J.alloc _).drew.x0, (J.alloc _).drew.x1, (J.alloc _).drew⟩ | exact ⟨J.drew.d.c2, J.drew.x0, J.drew.x1, J.drew⟩ | exact ⟨J.d.c2, J.x0, J.x1, J⟩)
        (first
        | (go_at_call 250; (with_reducible refine (HT.out _).mono ?_); rintro e w' ⟨rfl, hb'⟩; (first | (have K2 := DY.new J' hb') | (have K2 := DY.newd J hb') | (have K2 := K2.later hb') | skip); have J' := DX.later (by first | assumption | exact And.right (And.right (And.right (by assumption)))) hb'; (try (obtain ⟨k0, k1, k2, k3⟩ := K2.c)))
        | (go_at_call 251; (with_reducible refine (HS.out _).mono ?_); rintro e w' ⟨rfl, hb'⟩; (first | (have K2 := DY.new J' hb') | (have K2 := DY.newd J hb') | (have K2 := K2.later hb') | skip); have J' := DX.later (by first | assumption | exact And.right (And.right (And.right (by assumption)))) hb'; (try (obtain ⟨k0, k1, k2, k3⟩ := K2.c)))
        | (go_at_call 252; (with_reducible refine (H2.out _).mono ?_); rintro e w' ⟨rfl, hb'⟩; (first | (have K2 := DY.new J' hb') | (have K2 := DY.newd J hb') | (have K2 := K2.later hb') | skip); have J' := DX.later (by first | assumption | exact And.right (And.right (And.right (by assumption)))) hb'; (try (obtain ⟨k0, k1, k2, k3⟩ := K2.c)))
        | (go_at_call 268; (with_reducible refine (HR.out _).mono ?_); rintro e w' ⟨rfl, hb'⟩; (first | (have K2 := DY.new J' hb') | (have K2 := DY.newd J hb') | (have K2 := K2.later hb') | skip); have J' := DX.later (by first | assumption | exact And.right (And.right (And.right (by assumption)))) hb'; (try (obtain ⟨k0, k1, k2, k3⟩ := K2.c)))
        )
      all_goals (go_wp2_with fail; go_meet)
      all_goals first | exact ⟨_, rfl, J'.alloc _, DY.fresh J' D1 D2⟩ | exact ⟨_, rfl, (J'.sc K2 _ _).sc K2 _ _, DY.put K2 D1 D2⟩
    case rest =>
      clear J
      obtain ⟨y, rfl, J, Y⟩ := hcut
      have k0 := J.d.c0
      obtain ⟨k1, k2, -, -⟩ := Y.c
      obtain ⟨k3, k4, k5, k6⟩ := J.d.rc
      have zr : ∀ A B : Value, ((wc.setCell ⟨w.heap.size + 1, 0, none⟩ A).setCell ⟨w.heap.size + 1, 1, none⟩ B).heap[w.heap.size + 1]? = some (.cells #[A, B] 25 (0, 0)) := fun A B => heap_setCell_same _ (w.heap.size + 1) 1 _ _ B (heap_setCell_same wc (w.heap.size + 1) 0 _ _ A J.d.r)
      have hJ := Lib.hid J.d.w
      cases h
      all_goals
        go_wp2_with fail
        refine bodyPost_ret (results_cell_row rfl _ _ (w.heap.size + 1) 25 _ _ _ (by kernel_rfl) (zr _ _) Tryz.underlying25 rfl (by kernel_rfl)) rfl ?_
        exact ⟨rfl, (hJ.out.setCell (by simp) _).setCell (by simp) _⟩
set_option maxRecDepth 100000 in
set_option maxHeartbeats 4000000 in
theorem deviations2 (h : Bool) (s l g : Int) (w : World) (hs : s ≤ 100000) (l0 : 0 ≤ l) (l1 : l ≤ 9) (hl : l = 5) (g0 : 5 ≤ g) (g1 : g ≤ 12) :
    Calls Tryz.prog 216 #[.int .i64 s, .agg #[.bool h, .int .i64 l, .int .i64 g]] w (Ret w (lim (devz h s l g))) := by
  have H0 := letters_c; have H1 := steps_c
  have H2 := Lib.hid (fun W => index_c s W hs)
  have HT := Lib.hid (fun W => tolerance_c s g W hs g0 g1)
  obtain ⟨m, r1⟩ := ix_run s
  have r2 := let_run l0 l1
  have hf : letF l = 269 := by unfold letF; rw [if_neg (by omega), if_pos hl]
  rw [hf] at r2
  have r3 : ∀ (m b : Int) W, (Instr.field 305 (.agg #[.int .i64 m, .int .i64 b]) 1).run Tryz.prog W = .ok (.int .i64 b) W := fun m b W => rfl
  obtain ⟨tb0, tb1⟩ := tol_bd (s := s) g0 g1
  obtain ⟨sb0, sb1⟩ := sha_bd (s := s) l0 l1
  have HR := Lib.hid (fun W => rule_c (l := l) (tol s g) (sha s l) W (by omega) (by omega) (by omega) (by omega))
  rw [hf] at HR
  have hd3 := dev3_bd (l := l) (show 0 ≤ tol s g by omega) tb1 sb0 sb1
  obtain ⟨V, hV⟩ : ∃ V, stepsV = V := ⟨_, rfl⟩
  obtain ⟨F, hF⟩ : ∃ V, letV = V := ⟨_, rfl⟩
  rw [hV] at H1 r1; rw [hF] at H0 r2
  have HS := Lib.hid H1; have HF := Lib.hid H0
  obtain ⟨a, b⟩ := baS_bd s; obtain ⟨c, d⟩ := shf_bd l0 l1
  obtain ⟨p0, p1⟩ := prod_bd (show 0 ≤ baS s by omega) b c d
  have w1 : IntKind.i64.wrap (baS s * shf l) = baS s * shf l := IntWalk.i64_in _ (by omega)
  have q : baS s * shf l / 10 = sha s l := rfl
  have w3 : IntKind.i64.wrap (sha s l) = sha s l := IntWalk.i64_in _ (by omega)
  unfold devz
  generalize dev3 l (tol s g) (sha s l) = D at *
  obtain ⟨D1, D2⟩ := D
  simp only at hd3
  obtain ⟨⟨x0, x1⟩, x2, x3⟩ := hd3
  have y1 : IntKind.i64.wrap (-D1) = -D1 := IntWalk.i64_in _ (by omega)
  have y2 : IntKind.i64.wrap (-D2) = -D2 := IntWalk.i64_in _ (by omega)
  clear hV hF H0 H1 hs l0 l1 hl hf g0 g1 x0 x1 x2 x3
  generalize tol s g = T at *
  generalize sha s l = S at *
  generalize baS s = B at *
  generalize shf l = G at *
  generalize ixS s = I at *
  obtain ⟨PP, q1⟩ : ∃ v, B * G = v := ⟨_, rfl⟩
  have j1 := w1.trans q1
  rw [q1] at q p0 p1
  clear w1 q1
  have q2 : PP.tdiv 10 = S := by rw [Int.tdiv_eq_ediv_of_nonneg p0]; exact q
  have JN := DV.new w h l g
  go_enter Tryz.func216, Tryz.ntmps216
  have e2 : ((w.alloc (.cells #[.bool h, .int .i64 l, .int .i64 g] 67)).alloc (.cells #[.int .i64 0, .int .i64 0] 25)).heap.size = w.heap.size + 1 + 1 := by simp
  go_upto_region 1 with fail
  go_cut [5] (fun s5 wx => ∃ x, s5 = .pointer (some ⟨x, 0, none⟩) ∧ DX w w.heap.size h l g x G 269 wx)
  case first =>
    go_region_held3 (fun w' => w'.cell? ⟨w.heap.size, 1, none⟩ = some (.int .i64 l) ∧ DV w w.heap.size h l g w') (first | exact ⟨J'.c1, J'⟩ | exact ⟨(J'.alloc _).c1, J'.alloc _⟩ | exact ⟨((J'.put (x := w.heap.size + 2) (Nat.lt_succ_self _) _ _).put (x := w.heap.size + 2) (Nat.lt_succ_self _) _ _).c1, (J'.put (x := w.heap.size + 2) (Nat.lt_succ_self _) _ _).put (x := w.heap.size + 2) (Nat.lt_succ_self _) _ _⟩ | exact ⟨(JN.drew.alloc _).c1, (JN.drew.alloc _)⟩ | exact ⟨JN.drew.c1, JN.drew⟩ | exact ⟨JN.c1, JN⟩)
      (first | (go_at_call 249; (with_reducible refine (HF.out _).mono ?_); rintro e w' ⟨rfl, hb'⟩; have J' := DV.later (by first | assumption | exact And.right (by assumption)) hb'; (try (have K2 := fresh_later hb'; rw [e2] at K2; have K0 := cell_of_row _ _ 0 _ _ _ K2; have K1 := cell_of_row _ _ 1 _ _ _ K2; have F0 := frozen_of_row _ _ 0 _ _ K2; have F1 := frozen_of_row _ _ 1 _ _ K2))))
    all_goals (go_wp2_with fail; go_meet)
    all_goals first | exact ⟨_, rfl, DX.new J' G 269 rfl⟩ | exact ⟨_, rfl, DX.put J' (by omega) G 269 K2⟩
  case rest =>
    obtain ⟨x, rfl, J⟩ := hcut
    clear JN e2
    go_upto_region 2 with fail
    go_cut [6] (fun s6 wy => ∃ y, s6 = .pointer (some ⟨y, 0, none⟩) ∧ DX w w.heap.size h l g x G 269 wy ∧ DY w.heap.size x y D1 D2 wy)
    case first =>
      go_region_held3 (fun w' => w'.cell? ⟨w.heap.size, 2, none⟩ = some (.int .i64 g) ∧ w'.cell? ⟨x, 0, none⟩ = some (.int .i64 G) ∧ w'.cell? ⟨x, 1, none⟩ = some (.func (.func 269) #[] #[]) ∧ DX w w.heap.size h l g x G 269 w') (first | exact ⟨J'.d.c2, J'.x0, J'.x1, J'⟩ | exact ⟨(J'.alloc _).d.c2, (J'.alloc _).x0, (J'.alloc _).x1, J'.alloc _⟩ | exact ⟨((J'.sc K2 _ _).sc K2 _ _).d.c2, ((J'.sc K2 _ _).sc K2 _ _).x0, ((J'.sc K2 _ _).sc K2 _ _).x1, (J'.sc K2 _ _).sc K2 _ _⟩ | exact ⟨(J.alloc _).drew.d.c2, (J.alloc _).drew.x0, (J.alloc _).drew.x1, (J.alloc _).drew⟩ | exact ⟨J.drew.d.c2, J.drew.x0, J.drew.x1, J.drew⟩ | exact ⟨J.d.c2, J.x0, J.x1, J⟩)
        (first
        | (go_at_call 250; (with_reducible refine (HT.out _).mono ?_); rintro e w' ⟨rfl, hb'⟩; (first | (have K2 := DY.new J' hb') | (have K2 := DY.newd J hb') | (have K2 := K2.later hb') | skip); have J' := DX.later (by first | assumption | exact And.right (And.right (And.right (by assumption)))) hb'; (try (obtain ⟨k0, k1, k2, k3⟩ := K2.c)))
        | (go_at_call 251; (with_reducible refine (HS.out _).mono ?_); rintro e w' ⟨rfl, hb'⟩; (first | (have K2 := DY.new J' hb') | (have K2 := DY.newd J hb') | (have K2 := K2.later hb') | skip); have J' := DX.later (by first | assumption | exact And.right (And.right (And.right (by assumption)))) hb'; (try (obtain ⟨k0, k1, k2, k3⟩ := K2.c)))
        | (go_at_call 252; (with_reducible refine (H2.out _).mono ?_); rintro e w' ⟨rfl, hb'⟩; (first | (have K2 := DY.new J' hb') | (have K2 := DY.newd J hb') | (have K2 := K2.later hb') | skip); have J' := DX.later (by first | assumption | exact And.right (And.right (And.right (by assumption)))) hb'; (try (obtain ⟨k0, k1, k2, k3⟩ := K2.c)))
        | (go_at_call 269; (with_reducible refine (HR.out _).mono ?_); rintro e w' ⟨rfl, hb'⟩; (first | (have K2 := DY.new J' hb') | (have K2 := DY.newd J hb') | (have K2 := K2.later hb') | skip); have J' := DX.later (by first | assumption | exact And.right (And.right (And.right (by assumption)))) hb'; (try (obtain ⟨k0, k1, k2, k3⟩ := K2.c)))
        )
      all_goals (go_wp2_with fail; go_meet)
      all_goals first | exact ⟨_, rfl, J'.alloc _, DY.fresh J' D1 D2⟩ | exact ⟨_, rfl, (J'.sc K2 _ _).sc K2 _ _, DY.put K2 D1 D2⟩
    case rest =>
      clear J
      obtain ⟨y, rfl, J, Y⟩ := hcut
      have k0 := J.d.c0
      obtain ⟨k1, k2, -, -⟩ := Y.c
      obtain ⟨k3, k4, k5, k6⟩ := J.d.rc
      have zr : ∀ A B : Value, ((wc.setCell ⟨w.heap.size + 1, 0, none⟩ A).setCell ⟨w.heap.size + 1, 1, none⟩ B).heap[w.heap.size + 1]? = some (.cells #[A, B] 25 (0, 0)) := fun A B => heap_setCell_same _ (w.heap.size + 1) 1 _ _ B (heap_setCell_same wc (w.heap.size + 1) 0 _ _ A J.d.r)
      have hJ := Lib.hid J.d.w
      cases h
      all_goals
        go_wp2_with fail
        refine bodyPost_ret (results_cell_row rfl _ _ (w.heap.size + 1) 25 _ _ _ (by kernel_rfl) (zr _ _) Tryz.underlying25 rfl (by kernel_rfl)) rfl ?_
        exact ⟨rfl, (hJ.out.setCell (by simp) _).setCell (by simp) _⟩
set_option maxRecDepth 100000 in
set_option maxHeartbeats 4000000 in
theorem deviations3 (h : Bool) (s l g : Int) (w : World) (hs : s ≤ 100000) (l0 : 0 ≤ l) (l1 : l ≤ 9) (hl : 6 ≤ l) (g0 : 5 ≤ g) (g1 : g ≤ 12) :
    Calls Tryz.prog 216 #[.int .i64 s, .agg #[.bool h, .int .i64 l, .int .i64 g]] w (Ret w (lim (devz h s l g))) := by
  have H0 := letters_c; have H1 := steps_c
  have H2 := Lib.hid (fun W => index_c s W hs)
  have HT := Lib.hid (fun W => tolerance_c s g W hs g0 g1)
  obtain ⟨m, r1⟩ := ix_run s
  have r2 := let_run l0 l1
  have hf : letF l = 270 := by unfold letF; rw [if_neg (by omega), if_neg (by omega)]
  rw [hf] at r2
  have r3 : ∀ (m b : Int) W, (Instr.field 305 (.agg #[.int .i64 m, .int .i64 b]) 1).run Tryz.prog W = .ok (.int .i64 b) W := fun m b W => rfl
  obtain ⟨tb0, tb1⟩ := tol_bd (s := s) g0 g1
  obtain ⟨sb0, sb1⟩ := sha_bd (s := s) l0 l1
  have HR := Lib.hid (fun W => rule_c (l := l) (tol s g) (sha s l) W (by omega) (by omega) (by omega) (by omega))
  rw [hf] at HR
  have hd3 := dev3_bd (l := l) (show 0 ≤ tol s g by omega) tb1 sb0 sb1
  obtain ⟨V, hV⟩ : ∃ V, stepsV = V := ⟨_, rfl⟩
  obtain ⟨F, hF⟩ : ∃ V, letV = V := ⟨_, rfl⟩
  rw [hV] at H1 r1; rw [hF] at H0 r2
  have HS := Lib.hid H1; have HF := Lib.hid H0
  obtain ⟨a, b⟩ := baS_bd s; obtain ⟨c, d⟩ := shf_bd l0 l1
  obtain ⟨p0, p1⟩ := prod_bd (show 0 ≤ baS s by omega) b c d
  have w1 : IntKind.i64.wrap (baS s * shf l) = baS s * shf l := IntWalk.i64_in _ (by omega)
  have q : baS s * shf l / 10 = sha s l := rfl
  have w3 : IntKind.i64.wrap (sha s l) = sha s l := IntWalk.i64_in _ (by omega)
  unfold devz
  generalize dev3 l (tol s g) (sha s l) = D at *
  obtain ⟨D1, D2⟩ := D
  simp only at hd3
  obtain ⟨⟨x0, x1⟩, x2, x3⟩ := hd3
  have y1 : IntKind.i64.wrap (-D1) = -D1 := IntWalk.i64_in _ (by omega)
  have y2 : IntKind.i64.wrap (-D2) = -D2 := IntWalk.i64_in _ (by omega)
  clear hV hF H0 H1 hs l0 l1 hl hf g0 g1 x0 x1 x2 x3
  generalize tol s g = T at *
  generalize sha s l = S at *
  generalize baS s = B at *
  generalize shf l = G at *
  generalize ixS s = I at *
  obtain ⟨PP, q1⟩ : ∃ v, B * G = v := ⟨_, rfl⟩
  have j1 := w1.trans q1
  rw [q1] at q p0 p1
  clear w1 q1
  have q2 : PP.tdiv 10 = S := by rw [Int.tdiv_eq_ediv_of_nonneg p0]; exact q
  have JN := DV.new w h l g
  go_enter Tryz.func216, Tryz.ntmps216
  have e2 : ((w.alloc (.cells #[.bool h, .int .i64 l, .int .i64 g] 67)).alloc (.cells #[.int .i64 0, .int .i64 0] 25)).heap.size = w.heap.size + 1 + 1 := by simp
  go_upto_region 1 with fail
  go_cut [5] (fun s5 wx => ∃ x, s5 = .pointer (some ⟨x, 0, none⟩) ∧ DX w w.heap.size h l g x G 270 wx)
  case first =>
    go_region_held3 (fun w' => w'.cell? ⟨w.heap.size, 1, none⟩ = some (.int .i64 l) ∧ DV w w.heap.size h l g w') (first | exact ⟨J'.c1, J'⟩ | exact ⟨(J'.alloc _).c1, J'.alloc _⟩ | exact ⟨((J'.put (x := w.heap.size + 2) (Nat.lt_succ_self _) _ _).put (x := w.heap.size + 2) (Nat.lt_succ_self _) _ _).c1, (J'.put (x := w.heap.size + 2) (Nat.lt_succ_self _) _ _).put (x := w.heap.size + 2) (Nat.lt_succ_self _) _ _⟩ | exact ⟨(JN.drew.alloc _).c1, (JN.drew.alloc _)⟩ | exact ⟨JN.drew.c1, JN.drew⟩ | exact ⟨JN.c1, JN⟩)
      (first | (go_at_call 249; (with_reducible refine (HF.out _).mono ?_); rintro e w' ⟨rfl, hb'⟩; have J' := DV.later (by first | assumption | exact And.right (by assumption)) hb'; (try (have K2 := fresh_later hb'; rw [e2] at K2; have K0 := cell_of_row _ _ 0 _ _ _ K2; have K1 := cell_of_row _ _ 1 _ _ _ K2; have F0 := frozen_of_row _ _ 0 _ _ K2; have F1 := frozen_of_row _ _ 1 _ _ K2))))
    all_goals (go_wp2_with fail; go_meet)
    all_goals first | exact ⟨_, rfl, DX.new J' G 270 rfl⟩ | exact ⟨_, rfl, DX.put J' (by omega) G 270 K2⟩
  case rest =>
    obtain ⟨x, rfl, J⟩ := hcut
    clear JN e2
    go_upto_region 2 with fail
    go_cut [6] (fun s6 wy => ∃ y, s6 = .pointer (some ⟨y, 0, none⟩) ∧ DX w w.heap.size h l g x G 270 wy ∧ DY w.heap.size x y D1 D2 wy)
    case first =>
      go_region_held3 (fun w' => w'.cell? ⟨w.heap.size, 2, none⟩ = some (.int .i64 g) ∧ w'.cell? ⟨x, 0, none⟩ = some (.int .i64 G) ∧ w'.cell? ⟨x, 1, none⟩ = some (.func (.func 270) #[] #[]) ∧ DX w w.heap.size h l g x G 270 w') (first | exact ⟨J'.d.c2, J'.x0, J'.x1, J'⟩ | exact ⟨(J'.alloc _).d.c2, (J'.alloc _).x0, (J'.alloc _).x1, J'.alloc _⟩ | exact ⟨((J'.sc K2 _ _).sc K2 _ _).d.c2, ((J'.sc K2 _ _).sc K2 _ _).x0, ((J'.sc K2 _ _).sc K2 _ _).x1, (J'.sc K2 _ _).sc K2 _ _⟩ | exact ⟨(J.alloc _).drew.d.c2, (J.alloc _).drew.x0, (J.alloc _).drew.x1, (J.alloc _).drew⟩ | exact ⟨J.drew.d.c2, J.drew.x0, J.drew.x1, J.drew⟩ | exact ⟨J.d.c2, J.x0, J.x1, J⟩)
        (first
        | (go_at_call 250; (with_reducible refine (HT.out _).mono ?_); rintro e w' ⟨rfl, hb'⟩; (first | (have K2 := DY.new J' hb') | (have K2 := DY.newd J hb') | (have K2 := K2.later hb') | skip); have J' := DX.later (by first | assumption | exact And.right (And.right (And.right (by assumption)))) hb'; (try (obtain ⟨k0, k1, k2, k3⟩ := K2.c)))
        | (go_at_call 251; (with_reducible refine (HS.out _).mono ?_); rintro e w' ⟨rfl, hb'⟩; (first | (have K2 := DY.new J' hb') | (have K2 := DY.newd J hb') | (have K2 := K2.later hb') | skip); have J' := DX.later (by first | assumption | exact And.right (And.right (And.right (by assumption)))) hb'; (try (obtain ⟨k0, k1, k2, k3⟩ := K2.c)))
        | (go_at_call 252; (with_reducible refine (H2.out _).mono ?_); rintro e w' ⟨rfl, hb'⟩; (first | (have K2 := DY.new J' hb') | (have K2 := DY.newd J hb') | (have K2 := K2.later hb') | skip); have J' := DX.later (by first | assumption | exact And.right (And.right (And.right (by assumption)))) hb'; (try (obtain ⟨k0, k1, k2, k3⟩ := K2.c)))
        | (go_at_call 270; (with_reducible refine (HR.out _).mono ?_); rintro e w' ⟨rfl, hb'⟩; (first | (have K2 := DY.new J' hb') | (have K2 := DY.newd J hb') | (have K2 := K2.later hb') | skip); have J' := DX.later (by first | assumption | exact And.right (And.right (And.right (by assumption)))) hb'; (try (obtain ⟨k0, k1, k2, k3⟩ := K2.c)))
        )
      all_goals (go_wp2_with fail; go_meet)
      all_goals first | exact ⟨_, rfl, J'.alloc _, DY.fresh J' D1 D2⟩ | exact ⟨_, rfl, (J'.sc K2 _ _).sc K2 _ _, DY.put K2 D1 D2⟩
    case rest =>
      clear J
      obtain ⟨y, rfl, J, Y⟩ := hcut
      have k0 := J.d.c0
      obtain ⟨k1, k2, -, -⟩ := Y.c
      obtain ⟨k3, k4, k5, k6⟩ := J.d.rc
      have zr : ∀ A B : Value, ((wc.setCell ⟨w.heap.size + 1, 0, none⟩ A).setCell ⟨w.heap.size + 1, 1, none⟩ B).heap[w.heap.size + 1]? = some (.cells #[A, B] 25 (0, 0)) := fun A B => heap_setCell_same _ (w.heap.size + 1) 1 _ _ B (heap_setCell_same wc (w.heap.size + 1) 0 _ _ A J.d.r)
      have hJ := Lib.hid J.d.w
      cases h
      all_goals
        go_wp2_with fail
        refine bodyPost_ret (results_cell_row rfl _ _ (w.heap.size + 1) 25 _ _ _ (by kernel_rfl) (zr _ _) Tryz.underlying25 rfl (by kernel_rfl)) rfl ?_
        exact ⟨rfl, (hJ.out.setCell (by simp) _).setCell (by simp) _⟩
theorem deviations_c (h : Bool) (s l g : Int) (w : World) (hs : s ≤ 100000) (l0 : 0 ≤ l) (l1 : l ≤ 9) (g0 : 5 ≤ g) (g1 : g ≤ 12) :
    Calls Tryz.prog 216 #[.int .i64 s, .agg #[.bool h, .int .i64 l, .int .i64 g]] w (Ret w (lim (devz h s l g))) := by
  by_cases h1 : l ≤ 4
  · exact deviations1 h s l g w hs l0 l1 h1 g0 g1
  · by_cases h2 : l = 5
    · exact deviations2 h s l g w hs l0 l1 h2 g0 g1
    · exact deviations3 h s l g w hs l0 l1 (by omega) g0 g1
end Go.Proofs.Wk
