/- THE REFERENCE's WHOLE NUMBERS: binomials. -/
import Derived.Test.YtjljappilpkelaaGreatDoorRefL
import Derived.Test.YtjljappilpkelaaGreatDoorWhS
namespace Go.Proofs.Wk
open Go.RowKit Mt

set_option maxRecDepth 100000 in
theorem Chosen_c (n k : Int) (w : World) (h0 : 0 ≤ n) (hn : n ≤ 4096) : Calls Tryz.prog 53 #[.int .i64 n, .int .i64 k] w (Ret w (.string ⟨(Lib.itoa (choi n k)).toArray⟩)) := by
  by_cases hk : k < 0 ∨ n < k
  · rw [choi_out hk, itoa_zero]
    have hp : k < 0 ∨ (¬ k < 0 ∧ n < k) := by omega
    clear hk
    rcases hp with h1 | ⟨h1, h2⟩
    all_goals
      go_enter Tryz.func53, Tryz.ntmps53
      go_wp2
      go_ret
      exact ⟨rfl, Below.refl _ _⟩
  · obtain ⟨n', rfl⟩ : ∃ n' : Nat, n = (n' : Int) := ⟨n.toNat, by omega⟩
    obtain ⟨k', rfl⟩ : ∃ k' : Nat, k = (k' : Int) := ⟨k.toNat, by omega⟩
    rw [choi_nat (by omega)]
    exact Chosen_in n' k' w (by omega) (by omega)
set_option maxRecDepth 100000 in
theorem rBinomial_c (n k : Int) (w : World) : Calls Tryz.prog 20 #[.int .i64 n, .int .i64 k] w (Ret w (ans2 (bino n k))) := by
  by_cases hr : n < 0 ∨ 4096 < n
  · rw [bino_err hr]
    have hp : n < 0 ∨ (¬ n < 0 ∧ 4096 < n) := by omega
    clear hr
    rcases hp with h1 | ⟨h1, h2⟩
    all_goals
      go_enter Tryz.func20, Tryz.ntmps20
      go_wp2
      go_ret2
      exact ⟨rfl, Below.refl _ _⟩
  · rw [bino_ok hr]
    have h1 : ¬ n < 0 := by omega
    have h2 : ¬ 4096 < n := by omega
    have HC := Lib.hid (fun W => Chosen_c n k W (by omega) (by omega))
    have HK := Lib.hid (fun W => Kept_c (choi n k) W)
    have hB0 := Below.refl w.heap.size w
    clear hr
    generalize choi n k = c at *
    go_enter Tryz.func20, Tryz.ntmps20
    go_wp2_with fail
    ((with_reducible refine (HC.out _).mono ?_); rintro e w1 ⟨rfl, hb1⟩)
    have hB1 := hB0.trans (hb1.mono hB0.size); clear hb1
    go_wp2_with fail
    ((with_reducible refine (HK.out _).mono ?_); rintro e w' ⟨rfl, rfl⟩)
    go_wp2
    go_ret2
    exact ⟨rfl, hB1⟩
end Go.Proofs.Wk
