/- THE PROGRAM's ARITHMETIC: powers, binomials, sums of lists. -/
import Derived.Test.YtjljappilpkelaaGreatDoorWhQ
import Derived.Test.YtjljappilpkelaaGreatDoorMathV
namespace Go.Proofs.Wk
open Go.RowKit Mt

set_option maxRecDepth 100000 in
set_option maxHeartbeats 1000000 in
theorem wGcd_c (a b : List UInt8) (w : World) (hg : Good w) (ha : a.length ≤ 140737488355328) (hb : b.length ≤ 140737488355328) : Calls Tryz.prog 15 #[.string ⟨a.toArray⟩, .string ⟨b.toArray⟩] w (Ret w (ans2 (bin2 gcd2 a b))) := by
  revert ha hb
  refine bin_cases (P := fun a b => a.length ≤ 140737488355328 → b.length ≤ 140737488355328 → Calls Tryz.prog 15 #[.string ⟨a.toArray⟩, .string ⟨b.toArray⟩] w (Ret w (ans2 (bin2 gcd2 a b)))) a b ?_ ?_
  · intro h ha hb
    have HB := Lib.hid (fun t => allz a b w ha hb t)
    rw [show bin2 gcd2 a b = ([], both a b) by unfold bin2; rw [if_neg h]]
    generalize both a b = x at *
    have h2 := bne_ne h
    go_enter Tryz.func15, Tryz.ntmps15
    go_wp2_with fail
    refine (HB.out _).mono ?_; rintro e w1 ⟨rfl, hb1⟩
    go_wp2
    go_ret2
    exact ⟨rfl, hb1⟩
  · intro m n hm hn _ _
    rw [bin2_itoa _ hm hn]
    exact gcd_ok m n w hg hm hn

set_option maxRecDepth 100000 in
set_option maxHeartbeats 1000000 in
theorem wPow_c (a : List UInt8) (n : Int) (w : World) (hg : Good w) (ha : a.length ≤ 140737488355328) : Calls Tryz.prog 17 #[.string ⟨a.toArray⟩, .int .i64 n] w (Ret w (ans2 (un1 (pow2 n) a))) := by
  revert ha
  have hB0 := Below.refl w.heap.size w
  refine un_cases (P := fun a => a.length ≤ 140737488355328 → Calls Tryz.prog 17 #[.string ⟨a.toArray⟩, .int .i64 n] w (Ret w (ans2 (un1 (pow2 n) a)))) a ?_ ?_
  · intro h ha
    have HC := Lib.hid (fun W => wCheck_c a W ha)
    rw [show un1 (pow2 n) a = ([], chk a) by unfold un1; rw [if_neg h]]
    generalize chk a = x at *
    have h2 := bne_ne h
    go_enter Tryz.func17, Tryz.ntmps17
    go_wp2_with fail
    refine (HC.out _).mono ?_; rintro e w1 ⟨rfl, hb1⟩
    have hB1 := hB0.trans (hb1.mono hB0.size); clear hb1
    go_wp2
    go_ret2
    exact ⟨rfl, hB1⟩
  · intro m hm ha
    have HC := Lib.hid (fun W => wCheck_c (Lib.itoa m) W ha)
    rw [chk_ok hm] at HC
    rw [un1_itoa _ hm]
    have HG := Lib.hid hg
    have HL := Lib.hid ha
    clear ha hg
    by_cases hr : n < 0 ∨ 4096 < n
    · rw [show pow2 n m = ([], 2) by unfold pow2; rw [if_pos hr]]
      have hp : n < 0 ∨ (¬ n < 0 ∧ 4096 < n) := by omega
      clear hr hm
      rcases hp with h1 | ⟨h1, h2⟩
      all_goals
        go_enter Tryz.func17, Tryz.ntmps17
        go_wp2_with fail
        refine (HC.out _).mono ?_; rintro e w1 ⟨rfl, hb1⟩
        have hB1 := hB0.trans (hb1.mono hB0.size); clear hb1
        go_wp2
        go_ret2
        exact ⟨rfl, hB1⟩
    · obtain ⟨k, rfl⟩ : ∃ k : Nat, n = (k : Int) := ⟨n.toNat, by omega⟩
      have hk : k ≤ 4096 := by omega
      have h1 : ¬ (k : Int) < 0 := by omega
      have h2 : ¬ (4096 : Int) < (k : Int) := by omega
      rw [show pow2 (k : Int) m = kept (m ^ k) by unfold pow2; rw [if_neg hr]; rfl]
      have HM := Lib.hid hm
      have HMUL := Lib.hid (fun i (h : (m ^ i).natAbs < big) W hW => wMul_c (Lib.itoa (m ^ i)) (Lib.itoa m) W hW (lng_txt h) HL.out)
      clear hr hm
      go_enter Tryz.func17, Tryz.ntmps17
      go_wp2_with fail
      refine (HC.out _).mono ?_; rintro e w1 ⟨rfl, hb1⟩
      have hB1 := hB0.trans (hb1.mono hB0.size); clear hb1
      go_wp2_with fail
      go_loopw [7, 21] (fun so si wr => ∃ i : Nat, i ≤ k ∧ si = .int .i64 (i : Int) ∧ so = .string ⟨(Lib.itoa (m ^ i)).toArray⟩ ∧ Hid ((m ^ i).natAbs < big) ∧ Below w.heap.size w wr) (fun _ si _ => k - (intOf si).toNat)
      case atStart => exact ⟨0, by omega, rfl, by rw [Int.pow_zero, itoa_one], by rw [Int.pow_zero]; exact one_lt_big, hB1⟩
      case round =>
        obtain ⟨i, hi, rfl, rfl, hbg, hB⟩ := hrel
        by_cases hik : i < k
        · have hmul := HMUL.out i hbg.out wr (HG.out.later hB)
          rw [bin2_itoa _ hbg.out HM.out, show m ^ i * m = m ^ (i + 1) from (Int.pow_succ m i).symm] at hmul
          by_cases hnx : (m ^ (i + 1)).natAbs < big
          · rw [kept_lt hnx] at hmul
            have HMU := Lib.hid hmul
            have HNX := Lib.hid hnx
            clear hmul hnx
            go_wp2_with fail
            refine HMU.out.mono ?_; rintro e w2 ⟨rfl, hb2⟩
            have hB2 := hB.trans (hb2.mono hB.size)
            go_wp2
            go_roundw
            case rel => exact ⟨i + 1, by omega, by go_num, rfl, HNX.out, hB2⟩
            case measure => simp [intOf]; omega
          · rw [kept_ge (by omega)] at hmul
            have HMU := Lib.hid hmul
            have HK := Lib.hid (kept_ge (pow_big (a := m) (i := i + 1) (n := k) (by omega) (by omega)))
            clear hmul hnx
            go_wp2_with fail
            refine HMU.out.mono ?_; rintro e w2 ⟨rfl, hb2⟩
            have hB2 := hB.trans (hb2.mono hB.size)
            go_wp2
            go_ret2
            rw [HK.out]
            exact ⟨rfl, hB2⟩
        · obtain rfl : i = k := by omega
          have HK := Lib.hid (kept_lt hbg.out)
          go_wp2
          go_ret2
          rw [HK.out]
          exact ⟨rfl, hB⟩
end Go.Proofs.Wk
