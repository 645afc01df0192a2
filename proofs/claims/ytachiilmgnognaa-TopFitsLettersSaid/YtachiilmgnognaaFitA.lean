/- TOLERANCE GRADES: steps of sizes, factors, letters. -/
import Derived.Test.YtachiilmgnognaaProg
import Derived.WalkKit
import Derived.WalkLawsBesides
import Derived.WalkSpells
import Derived.BigQuiet
import Derived.Deep.QuietTactic
import Derived.Lib.Hide
import Derived.Outline
import Derived.Handy
import Derived.Deep.DeepCutAuto
import Derived.Deep.CutBlock
import Derived.Deep.DeepFit
import Derived.Deep.LoopGhost
import Derived.Deep.RegionWith
import Derived.StillTailTactics
import Derived.LoopN
namespace Go.Proofs.Wk
open Go.RowKit

/-- WHAT A CALL DOES: it returns v, and what was there before it is as it was. -/
def Ret (w : World) (v : Value) (e : Ending) (w' : World) : Prop := e = .returned v ∧ Below w.heap.size w w'
theorem alloc_lt (w : World) (o : Obj) : w.heap.size < (w.alloc o).heap.size := by simp
/-- The index of a size's step, and its base. -/
def ixS (s : Int) : Int := if s ≤ 3000 then 0 else if s ≤ 6000 then 1 else if s ≤ 10000 then 2 else if s ≤ 18000 then 3 else if s ≤ 30000 then 4 else if s ≤ 50000 then 5 else if s ≤ 80000 then 6 else 7
def baS (s : Int) : Int := if s ≤ 3000 then 6 else if s ≤ 6000 then 8 else if s ≤ 10000 then 9 else if s ≤ 18000 then 11 else if s ≤ 30000 then 13 else if s ≤ 50000 then 16 else if s ≤ 80000 then 19 else 22
abbrev stepsV : Value := .agg #[.int .i64 3000, .int .i64 6, .int .i64 6000, .int .i64 8, .int .i64 10000, .int .i64 9, .int .i64 18000, .int .i64 11, .int .i64 30000, .int .i64 13, .int .i64 50000, .int .i64 16, .int .i64 80000, .int .i64 19, .int .i64 100000, .int .i64 22]
set_option maxRecDepth 100000 in
theorem steps_c (w : World) : Calls Try.prog 25 #[] w (Ret w stepsV) := by
  have hB : Below w.heap.size w (w.alloc (.cells #[.int .i64 3000, .int .i64 6, .int .i64 6000, .int .i64 8, .int .i64 10000, .int .i64 9, .int .i64 18000, .int .i64 11, .int .i64 30000, .int .i64 13, .int .i64 50000, .int .i64 16, .int .i64 80000, .int .i64 19, .int .i64 100000, .int .i64 22] 63)) := (Below.refl _ _).alloc (Nat.le_refl _) _
  go_enter Try.func25, Try.ntmps25
  go_wp2
  go_returns
  exact ⟨rfl, hB⟩
abbrev facV : Value := .agg #[.int .i64 7, .int .i64 10, .int .i64 16, .int .i64 25, .int .i64 40, .int .i64 64, .int .i64 100, .int .i64 160]
set_option maxRecDepth 100000 in
theorem factors_c (w : World) : Calls Try.prog 27 #[] w (Ret w facV) := by
  have hB : Below w.heap.size w (w.alloc (.cells #[.int .i64 7, .int .i64 10, .int .i64 16, .int .i64 25, .int .i64 40, .int .i64 64, .int .i64 100, .int .i64 160] 65)) := (Below.refl _ _).alloc (Nat.le_refl _) _
  go_enter Try.func27, Try.ntmps27
  go_wp2
  go_returns
  exact ⟨rfl, hB⟩
set_option maxRecDepth 100000 in
theorem index1_c (x m s : Int) (sb : Nat) (w : World) (hc : w.cell? ⟨sb, 0, none⟩ = some (.int .i64 s)) : Calls Try.prog 31 #[.agg #[.int .i64 m, .int .i64 x], .pointer (some ⟨sb, 0, none⟩)] w (Ret w (.bool (decide (s ≤ m)))) := by
  have hB : Below w.heap.size w (w.alloc (.cells #[.int .i64 m, .int .i64 x] 62)) := (Below.refl _ _).alloc (Nat.le_refl _) _
  have hc2 : (w.alloc (.cells #[.int .i64 m, .int .i64 x] 62)).cell? ⟨sb, 0, none⟩ = some (.int .i64 s) := by
    rw [hB.cell (p := ⟨sb, 0, none⟩) (World.block_lt_of_cell? w _ hc)]; exact hc
  clear hc
  go_enter Try.func31, Try.ntmps31
  go_wp2
  go_ret
  exact ⟨rfl, hB⟩
def mo (i : Nat) : Int := [3000, 6000, 10000, 18000, 30000, 50000, 80000, 100000].getD i 0
theorem ixS_is {s : Int} {i : Nat} (hi : i < 8) (h0 : i = 0 ∨ mo (i - 1) < s) (h1 : s ≤ mo i) : ixS s = i := by
  unfold ixS
  have : i = 0 ∨ i = 1 ∨ i = 2 ∨ i = 3 ∨ i = 4 ∨ i = 5 ∨ i = 6 ∨ i = 7 := by omega
  rcases this with rfl | rfl | rfl | rfl | rfl | rfl | rfl | rfl <;> simp [mo] at h0 h1 <;> (repeat' split) <;> omega
theorem step_cells {w : World} {b : Nat} {T : TypeId} (hR : w.heap[b]? = some (.cells #[.int .i64 3000, .int .i64 6, .int .i64 6000, .int .i64 8, .int .i64 10000, .int .i64 9, .int .i64 18000, .int .i64 11, .int .i64 30000, .int .i64 13, .int .i64 50000, .int .i64 16, .int .i64 80000, .int .i64 19, .int .i64 100000, .int .i64 22] T (0, 0))) {i : Nat} (hi : i < 8) :
    ∃ x, w.cell? ⟨b, i * 2, none⟩ = some (.int .i64 (mo i)) ∧ w.cell? ⟨b, i * 2 + 1, none⟩ = some (.int .i64 x) := by
  have : i = 0 ∨ i = 1 ∨ i = 2 ∨ i = 3 ∨ i = 4 ∨ i = 5 ∨ i = 6 ∨ i = 7 := by omega
  rcases this with rfl | rfl | rfl | rfl | rfl | rfl | rfl | rfl <;> exact ⟨_, by rw [cell_of_row _ _ _ _ _ _ hR]; rfl, by rw [cell_of_row _ _ _ _ _ _ hR]; rfl⟩
set_option maxRecDepth 100000 in
set_option maxHeartbeats 1000000 in
theorem ixF_c (b sb : Nat) (s : Int) (w : World) (hR : w.heap[b]? = some (.cells #[.int .i64 3000, .int .i64 6, .int .i64 6000, .int .i64 8, .int .i64 10000, .int .i64 9, .int .i64 18000, .int .i64 11, .int .i64 30000, .int .i64 13, .int .i64 50000, .int .i64 16, .int .i64 80000, .int .i64 19, .int .i64 100000, .int .i64 22] 63 (0, 0))) (hc : w.cell? ⟨sb, 0, none⟩ = some (.int .i64 s)) (h1 : s ≤ 100000) :
    Calls Try.prog 30 #[.slice (some ⟨b, 0, none⟩) 8 8, .func (.func 31) #[] #[.pointer (some ⟨sb, 0, none⟩)]] w (Ret w (.int .i64 (ixS s))) := by
  have hbl : b < w.heap.size := (Array.getElem?_eq_some_iff.1 hR).1
  have hsl : sb < w.heap.size := World.block_lt_of_cell? w _ hc
  have HR := Lib.hid hR; have HC := Lib.hid hc
  clear hR hc
  go_enter Try.func30, Try.ntmps30
  go_wp2_with fail
  go_loopw [8] (fun si wr => ∃ i : Nat, si = .int .i64 (i : Int) ∧ i ≤ 8 ∧ Hid (i = 0 ∨ mo (i - 1) < s) ∧ Below w.heap.size w wr) (fun si _ => 8 - (intOf si).toNat)
  case atStart => exact ⟨0, rfl, by omega, .inl rfl, Below.refl _ _⟩
  case round =>
    obtain ⟨i, rfl, hi, hE, hB⟩ := hrel
    by_cases hlt : i < 8
    · obtain ⟨x, k1, k2⟩ := step_cells (w := ‹World›) (by rw [hB.block b hbl]; exact HR.out) hlt
      have k3 := hB.cell (p := ⟨sb, 0, none⟩) hsl
      rw [HC.out] at k3
      have HI := Lib.hid (index1_c x (mo i) s sb _ k3)
      clear k3
      by_cases hs : s ≤ mo i
      · rw [decide_eq_true hs] at HI
        have HX := Lib.hid (ixS_is hlt hE.out hs)
        clear hE hs
        generalize mo i = m at *
        go_wp2_with fail
        ((with_reducible refine (HI.out).mono ?_); rintro e w2 ⟨rfl, hb2⟩)
        have hB2 := hB.trans (hb2.mono hB.size)
        go_wp2
        go_ret
        rw [HX.out]
        exact ⟨rfl, hB2⟩
      · rw [decide_eq_false hs] at HI
        have HX := Lib.hid (show i + 1 = 0 ∨ mo (i + 1 - 1) < s from .inr (by rw [Nat.add_sub_cancel]; omega))
        clear hE hs
        generalize mo i = m at *
        go_wp2_with fail
        ((with_reducible refine (HI.out).mono ?_); rintro e w2 ⟨rfl, hb2⟩)
        have hB2 := hB.trans (hb2.mono hB.size)
        go_wp2
        go_roundw
        case rel => exact ⟨i + 1, by go_num, by omega, HX, hB2⟩
        case measure => simp [intOf]; omega
    · exfalso
      obtain rfl : i = 8 := by omega
      have := hE.out
      simp [mo] at this
      omega
set_option maxRecDepth 100000 in
set_option maxHeartbeats 1000000 in
theorem index_c (s : Int) (w : World) (h1 : s ≤ 100000) : Calls Try.prog 26 #[.int .i64 s] w (Ret w (.int .i64 (ixS s))) := by
  have HS := Lib.hid (fun W => steps_c W)
  have HB := Lib.hid (show Below w.heap.size w (w.alloc (.cells #[.int .i64 s] 3)) from (Below.refl _ _).alloc (Nat.le_refl _) _)
  have HX := Lib.hid (fun b sb w hR hc => ixF_c b sb s w hR hc h1)
  clear h1
  generalize ixS s = r at *
  go_enter Try.func26, Try.ntmps26
  go_wp2_with fail
  ((with_reducible refine (HS.out _).mono ?_); rintro e w1 ⟨rfl, hb1⟩)
  have hB1 := HB.out.trans (hb1.mono (Nat.le_of_lt (alloc_lt w _)))
  have hc1 : w1.cell? ⟨w.heap.size, 0, none⟩ = some (.int .i64 s) := by
    rw [hb1.cell (p := ⟨w.heap.size, 0, none⟩) (alloc_lt w _), cell_of_row _ _ _ _ _ _ (heap_alloc_new w _)]; rfl
  have hB2 := hB1.alloc hB1.size (.cells #[.int .i64 3000, .int .i64 6, .int .i64 6000, .int .i64 8, .int .i64 10000, .int .i64 9, .int .i64 18000, .int .i64 11, .int .i64 30000, .int .i64 13, .int .i64 50000, .int .i64 16, .int .i64 80000, .int .i64 19, .int .i64 100000, .int .i64 22] 63)
  have hc2 : (w1.alloc (.cells #[.int .i64 3000, .int .i64 6, .int .i64 6000, .int .i64 8, .int .i64 10000, .int .i64 9, .int .i64 18000, .int .i64 11, .int .i64 30000, .int .i64 13, .int .i64 50000, .int .i64 16, .int .i64 80000, .int .i64 19, .int .i64 100000, .int .i64 22] 63)).cell? ⟨w.heap.size, 0, none⟩ = some (.int .i64 s) := by
    rw [((Below.refl w1.heap.size w1).alloc (Nat.le_refl _) (.cells #[.int .i64 3000, .int .i64 6, .int .i64 6000, .int .i64 8, .int .i64 10000, .int .i64 9, .int .i64 18000, .int .i64 11, .int .i64 30000, .int .i64 13, .int .i64 50000, .int .i64 16, .int .i64 80000, .int .i64 19, .int .i64 100000, .int .i64 22] 63)).cell (p := ⟨w.heap.size, 0, none⟩) (World.block_lt_of_cell? w1 _ hc1)]; exact hc1
  have HH := Lib.hid (HX.out w1.heap.size w.heap.size _ (heap_alloc_new w1 _) hc2)
  clear hb1 hc1 hc2 HX
  go_wp2_with fail
  ((with_reducible refine (HH.out).mono ?_); rintro e w2 ⟨rfl, hb2⟩)
  have hB3 := hB2.trans (hb2.mono hB2.size)
  go_wp2
  go_ret
  exact ⟨rfl, hB3⟩
end Go.Proofs.Wk
