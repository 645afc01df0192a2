/- THE PROGRAM's ARITHMETIC: binomials, sums of lists. -/
import Derived.Test.YtjljappilpkelaaGreatDoorWhR
namespace Go.Proofs.Wk
open Go.RowKit Mt

theorem choi_nat {n k : Nat} (h : k ≤ n) : choi n k = (cho n k : Int) := by unfold choi; rw [if_pos (by omega)]; rfl
theorem bino_err {n k : Int} (h : n < 0 ∨ 4096 < n) : bino n k = ([], 2) := by unfold bino; rw [if_pos h]
theorem bino_ok {n k : Int} (h : ¬ (n < 0 ∨ 4096 < n)) : bino n k = kept (choi n k) := by unfold bino; rw [if_neg h]
theorem choi_out {n k : Int} (h : k < 0 ∨ n < k) : choi n k = 0 := by unfold choi; rw [if_neg (by omega)]
theorem kept_zero : kept 0 = ([48], 0) := by rw [kept_small (by omega) (by omega), itoa_zero]
theorem big_le_words (k : Nat) (h : 1024 ≤ 9 * k) : big ≤ 1000000000 ^ k := by
  rw [← pow_words]
  unfold big
  exact Nat.pow_le_pow_right (by omega) (by rw [bigK_eq]; exact h)
theorem big_words2 {m : Nat} (h : 115 ≤ wlen m) : big ≤ m := by
  have h1 : ¬ wlen m ≤ 114 := by omega
  rw [wlen_le] at h1
  have h2 : big ≤ 1000000000 ^ 114 := big_le_words 114 (by omega)
  generalize 1000000000 ^ 114 = T at *
  omega
theorem wlen_int {m : Nat} (h : m < 1000000000) : wlen m ≤ 1 := (wlen_le 1 m).2 (by omega)
theorem lng_i64 {m : Int} (h0 : -9223372036854775808 ≤ m) (h1 : m ≤ 9223372036854775807) : lng m ≤ 19 := by
  unfold lng; exact dec_int64 (by omega)
theorem mul_4096 {C k : Nat} (hC : wlen C ≤ 114) (hk : k ≤ 4096) : C * k < wmax := by
  have h := (wlen_le 114 C).1 hC
  refine max_pow (k := 115) ?_ (by omega)
  rw [show (115 : Nat) = 114 + 1 from rfl, Nat.pow_succ]
  generalize 1000000000 ^ 114 = T at *
  have h1 : C * k ≤ T * 4096 := Nat.mul_le_mul (Nat.le_of_lt h) hk
  omega

set_option maxRecDepth 100000 in
set_option maxHeartbeats 2000000 in
theorem binomial_ok (n k : Nat) (w : World) (hg : Good w) (hn : n ≤ 4096) (hk : k ≤ n) : Calls Tryz.prog 19 #[.int .i64 (n : Int), .int .i64 (k : Int)] w (Ret w (ans2 (kept (cho n k : Int)))) := by
  have HG := Lib.hid hg
  have HR1 := Lib.hid (fun W => read_c 1 W (by have := lng_i64 (m := 1) (by omega) (by omega); omega))
  rw [itoa_one] at HR1
  have HRO := Lib.hid (fun (j : Nat) W (h : (j : Int) ≤ 4097) => read_c (j : Int) W (by have := lng_i64 (m := j) (by omega) (by omega); omega))
  have h1 : ¬ (n : Int) < 0 := by omega
  have h2 : ¬ (4096 : Int) < (n : Int) := by omega
  have h3 : ¬ (k : Int) < 0 := by omega
  have h4 : ¬ (n : Int) < (k : Int) := by omega
  have hmn : min (k : Int) ((n : Int) - k) = ((min k (n - k) : Nat) : Int) := by omega
  have hcm := cho_min hk
  obtain ⟨K, hK⟩ : ∃ K, min k (n - k) = K := ⟨_, rfl⟩
  rw [hK] at hmn hcm
  have hK2 : 2 * K ≤ n := by omega
  have HCM := Lib.hid hcm
  have hn3 : (n : Int) - k ≤ 4096 := by omega
  have hn4 : 0 ≤ (n : Int) - k := by omega
  clear hg hcm hK hk hn
  go_enter Tryz.func19, Tryz.ntmps19
  go_wp2_with fail
  refine (HR1.out _).mono ?_; rintro e w3 ⟨g, rfl, hgg, hC, hb3⟩
  have HC := Lib.hid hC
  clear hC
  go_wp2_with fail
  go_loopw [6, 27] (fun so si wr => ∃ (i g : Nat), i ≤ K ∧ si = .int .i64 (i : Int) ∧ so = .pointer (some ⟨g, 0, none⟩) ∧ Hid (CW wr g false (cho n i)) ∧ Hid (wlen (cho n i) ≤ 114) ∧ Below w.heap.size w wr) (fun _ si _ => K - (intOf si).toNat)
  case atStart =>
    refine ⟨0, g, by omega, rfl, rfl, ?_, ?_, hb3⟩
    · show CW _ _ _ _
      rw [cho_zero]; exact HC.out
    · show wlen _ ≤ 114
      rw [cho_zero, wlen_one]; omega
  case round =>
    clear hgg hb3 HC
    obtain ⟨i, g, hi, rfl, rfl, hC, hl, hB⟩ := hrel
    by_cases hik : i < K
    · have hd := @cho_div n i
      have HIK := Lib.hid hik
      have hin : ((n : Int) - (i : Int)) = ((n - i : Nat) : Int) := by omega
      have hglt := hC.out.lt
      have hroom := mul_4096 hl.out (k := n - i) (by omega)
      have hwl : wlen (cho n i * (n - i)) ≤ 232 := wmax_le.1 hroom
      have hw1 : wlen (i + 1) ≤ 231 := by have := wlen_int (m := i + 1) (by omega); omega
      have hmono : cho n (i + 1) ≤ cho n K := by
        have := cho_mono (n := n) (i := i + 1) (K - (i + 1)) (by omega)
        rwa [show i + 1 + (K - (i + 1)) = K by omega] at this
      obtain ⟨c, hc⟩ : ∃ c, cho n i = c := ⟨_, rfl⟩
      obtain ⟨d, hdd⟩ : ∃ d, cho n (i + 1) = d := ⟨_, rfl⟩
      rw [hc] at hC hd hroom
      rw [hdd] at hd hmono
      have HDD := Lib.hid hdd; have HD := Lib.hid hd; have HROOM := Lib.hid hroom; have HW1 := Lib.hid hw1; have HMO := Lib.hid hmono
      have hi1 : (i : Int) ≤ 4096 := by omega
      have hi2 : (i : Int) ≤ n := by omega
      clear hd hwl hroom hw1 hmono hc hdd hl hi
      go_wp2_with fail
      refine (wOf_c ((n - i : Nat) : Int) _ (HG.out.later hB) (by omega) (by omega)).mono ?_; rintro e w4 ⟨rfl, hb4⟩
      have hB4 := hB.trans (hb4.mono hB.size)
      have hC4 := Lib.hid (hC.out.later hb4 hglt)
      go_wp2_with fail
      refine (HRO.out (n - i) _ (by omega)).mono ?_; rintro e w5 ⟨g5, rfl, hg5, hCg5, hb5⟩
      rw [show decide (((n - i : Nat) : Int) < 0) = false from decide_eq_false (by omega), Int.natAbs_natCast] at hCg5
      have hB5 := hB4.trans (hb5.mono hB4.size)
      have hC5 := Lib.hid (hC4.out.later hb5 (by have := hb4.size; omega))
      have HG5 := Lib.hid hCg5
      clear hCg5
      go_wp2_with fail
      refine (times_c g g5 false false c (n - i) _ hC5.out HG5.out HROOM.out).mono ?_; rintro e w6 ⟨g6, rfl, hg6, hCg6, hb6⟩
      have hB6 := hB5.trans (hb6.mono hB5.size)
      have HG6 := Lib.hid hCg6
      have hg6l := hCg6.lt
      clear hCg6 HG5 hC5 hC4 hC
      go_wp2_with fail
      refine (wOf_c ((i : Int) + 1) _ (HG.out.later hB6) (by omega) (by omega)).mono ?_; rintro e w7 ⟨rfl, hb7⟩
      rw [show ((i : Int) + 1) = ((i + 1 : Nat) : Int) by omega]
      have hB7 := hB6.trans (hb7.mono hB6.size)
      have hC7 := Lib.hid (HG6.out.later hb7 hg6l)
      go_wp2_with fail
      refine (HRO.out (i + 1) _ (by omega)).mono ?_; rintro e w8 ⟨g8, rfl, hg8, hCg8, hb8⟩
      rw [show decide (((i + 1 : Nat) : Int) < 0) = false from decide_eq_false (by omega), Int.natAbs_natCast] at hCg8
      have hB8 := hB7.trans (hb8.mono hB7.size)
      have hC8 := Lib.hid (hC7.out.later hb8 (by have := hb7.size; omega))
      have HG8 := Lib.hid hCg8
      clear hCg8 HG6
      go_wp2_with fail
      refine (divided_c g6 g8 (false != false) false (c * (n - i)) (i + 1) _ hC8.out HG8.out (by omega) HW1.out).mono ?_; rintro e w9 ⟨gq, gr, rfl, hgq, hgr, hqr, hCq, hCr, hb9⟩
      rw [HD.out] at hCq
      have hB9 := hB8.trans (hb9.mono hB8.size)
      have hc9 := hCq.2.c1
      have HQ := Lib.hid hCq
      have hw9 := hCq.wl
      clear hCq hCr hC7 hC8 HG8 hb4 hb5 hb6 hb7 hb8 hb9
      by_cases hover : 115 ≤ wlen d
      · have hbig := Nat.le_trans (big_words2 hover) HMO.out
        have HK := Lib.hid (kept_ge (n := (cho n k : Int)) (by rw [← HCM.out]; omega))
        clear hbig
        go_wp2_with fail
        go_ret2
        rw [HK.out]
        exact ⟨rfl, hB9⟩
      · go_wp2_with fail
        go_roundw
        case rel => exact ⟨i + 1, gq, by have := HIK.out; omega, by go_num, rfl, by show CW _ _ _ _; rw [HDD.out]; exact HQ.out, by show wlen _ ≤ 114; rw [HDD.out]; omega, hB9⟩
        case measure => have := HIK.out; simp [intOf]; omega
    · obtain rfl : i = K := by omega
      have hlc := limited_c g false (cho n i) _ hC.out (HG.out.later hB)
      rw [HCM.out, show sg false (cho n k) = (cho n k : Int) from rfl] at hlc
      have HL := Lib.hid hlc
      clear hlc
      go_wp2_with fail
      refine HL.out.mono ?_; rintro e w4 ⟨rfl, hb4⟩
      have hB4 := hB.trans (hb4.mono hB.size)
      go_wp2
      go_ret2
      exact ⟨rfl, hB4⟩

set_option maxRecDepth 100000 in
set_option maxHeartbeats 1000000 in
theorem wBinomial_c (n k : Int) (w : World) (hg : Good w) : Calls Tryz.prog 19 #[.int .i64 n, .int .i64 k] w (Ret w (ans2 (bino n k))) := by
  by_cases hr : n < 0 ∨ 4096 < n
  · rw [bino_err hr]
    have hp : n < 0 ∨ (¬ n < 0 ∧ 4096 < n) := by omega
    clear hr
    rcases hp with h1 | ⟨h1, h2⟩
    all_goals
      go_enter Tryz.func19, Tryz.ntmps19
      go_wp2
      go_ret2
      exact ⟨rfl, Below.refl _ _⟩
  · rw [bino_ok hr]
    have h1 : ¬ n < 0 := by omega
    have h2 : ¬ 4096 < n := by omega
    by_cases hk : k < 0 ∨ n < k
    · rw [choi_out hk, kept_zero]
      have hp : k < 0 ∨ (¬ k < 0 ∧ n < k) := by omega
      clear hr hk
      rcases hp with h3 | ⟨h3, h4⟩
      all_goals
        go_enter Tryz.func19, Tryz.ntmps19
        go_wp2
        go_ret2
        exact ⟨rfl, Below.refl _ _⟩
    · obtain ⟨n', rfl⟩ : ∃ n' : Nat, n = (n' : Int) := ⟨n.toNat, by omega⟩
      obtain ⟨k', rfl⟩ : ∃ k' : Nat, k = (k' : Int) := ⟨k.toNat, by omega⟩
      rw [choi_nat (by omega)]
      exact binomial_ok n' k' w hg (by omega) (by omega)
end Go.Proofs.Wk
