/- POSITION: the statement Measures. -/
import Derived.Test.YtphbikfkeinmnaaGreatDoorPM
import Derived.Deep.RegionHeld3
namespace Go.Proofs.Wk
open Go.RowKit Mt Po

set_option maxRecDepth 100000 in
set_option maxHeartbeats 2000000 in
theorem rEq_c {v u : Value} (L : List Txt) (w : World) (S : SlS w v L) (T : SlS w u L) (hn3 : L.length ≤ 3) : Calls Tryz.prog 25 #[v, u] w (Ret w (.bool true)) := by
  have HF : ∀ {v : Value}, SlS w v L → ∃ sa cap, v = .slice sa L.length cap ∧ ∀ i, i < L.length → ∃ b off, sa = some ⟨b, off, none⟩ ∧ ∀ W, Below w.heap.size w W → W.cell? ⟨b, off + i, none⟩ = some (.string ⟨(L.getD i []).toArray⟩) := by
    rintro v (⟨a, c, rfl, rfl⟩ | ⟨b, off, c, rfl, hR, hb⟩)
    · exact ⟨a, c, rfl, fun i h => absurd h (Nat.not_lt_zero _)⟩
    · refine ⟨_, c, rfl, fun i hi => ⟨b, off, rfl, fun W h => ?_⟩⟩
      have := (hR.later h hb) i hi
      rw [this, List.getD_eq_getElem?_getD, List.getElem?_eq_getElem hi]; rfl
  obtain ⟨sa, c1, rfl, h1⟩ := HF S
  obtain ⟨ta, c2, rfl, h2⟩ := HF T
  have H1 := Lib.hid h1
  have H2 := Lib.hid h2
  clear S T HF h1 h2
  generalize L.getD = g at *
  generalize L.length = n at *
  have z0 : ((n : Int) != (n : Int)) = false := by simp
  go_enter Tryz.func25, Tryz.ntmps25
  go_wp2_with fail
  go_loopw [13] (fun si wr => ∃ i : Nat, si = .int .i64 (i : Int) ∧ i ≤ n ∧ Hid (Below w.heap.size w wr)) (fun si _ => n - (intOf si).toNat)
  case atStart => exact ⟨0, rfl, Nat.zero_le _, Below.refl _ _⟩
  case round =>
    obtain ⟨i, rfl, hi, hB⟩ := hrel
    by_cases hlt : i < n
    · obtain ⟨b, off, rfl, f1⟩ := H1.out i hlt
      obtain ⟨b2, off2, rfl, f2⟩ := H2.out i hlt
      have k0 := f1 _ hB.out
      have k1 := f2 _ hB.out
      clear f1 f2 H1 H2
      generalize g i [] = tx at *
      have j0 : (i : Int) < (n : Int) := by omega
      have j1 : (0 : Int) ≤ (i : Int) := by omega
      go_wp2_with fail
      go_quiet (fail)
      go_wp2
      go_roundw
      case rel => exact ⟨i + 1, by go_num, by omega, ⟨hB.out.os, hB.out.tape, hB.out.output, hB.out.size, hB.out.block⟩⟩
      case measure => simp [intOf]; omega
    · obtain rfl : i = n := by omega
      clear H1 H2
      have hw := hB.out
      go_wp2
      go_ret
      exact ⟨rfl, hw⟩
end Go.Proofs.Wk
