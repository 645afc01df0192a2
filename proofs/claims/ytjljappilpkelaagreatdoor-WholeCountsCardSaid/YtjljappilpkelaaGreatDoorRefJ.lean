/- THE REFERENCE's WHOLE NUMBERS: ints of texts, powers, sums of lists. -/
import Derived.Test.YtjljappilpkelaaGreatDoorRefI
namespace Go.Proofs.Wk
open Go.RowKit Mt

set_option maxRecDepth 100000 in
set_option maxHeartbeats 2000000 in
theorem rSmall_c (a : Txt) (w : World) (ha : a.length ≤ 140737488355328) : Calls Tryz.prog 25 #[.string ⟨a.toArray⟩] w (Ret w (int2 (un2 small2 a))) := by
  revert ha
  refine un_cases (P := fun a => a.length ≤ 140737488355328 → Calls Tryz.prog 25 #[.string ⟨a.toArray⟩] w (Ret w (int2 (un2 small2 a)))) a ?_ ?_
  · intro h ha
    have HC := Lib.hid (fun W => Check_c a W ha)
    rw [show un2 small2 a = (0, chk a) by unfold un2; rw [if_neg h]]
    generalize chk a = x at *
    have h2 := bne_ne h
    go_enter Tryz.func25, Tryz.ntmps25
    go_wp2_with fail
    ((with_reducible refine (HC.out _).mono ?_); rintro e w' ⟨rfl, rfl⟩)
    go_wp2
    go_ret2
    exact ⟨rfl, Below.refl _ _⟩
  · intro m hm ha
    rw [un2_itoa _ hm]
    by_cases hr : inR m
    · rw [show small2 m = (m, 0) by unfold small2; rw [if_pos hr]]
      exact rSmall_in m w hm hr
    · rw [show small2 m = (0, 2) by unfold small2; rw [if_neg hr]]
      have HC := Lib.hid (fun W => Check_c (Lib.itoa m) W (lng_txt hm))
      rw [chk_ok hm] at HC
      have lm := lng_big hm
      have HO1 := Lib.hid (fun W => Of_c 9223372036854775807 W (by omega) (by omega))
      have HO2 := Lib.hid (fun W => Of_c (-9223372036854775808) W (by omega) (by omega))
      have o1 := fun W => Order_c m 9223372036854775807 W (by omega) lng_max
      have o2 := fun W => Order_c m (-9223372036854775808) W (by omega) lng_min
      have hB0 := Below.refl w.heap.size w
      have c1 : 0 < cmp m 9223372036854775807 ∨ (¬ 0 < cmp m 9223372036854775807 ∧ cmp m (-9223372036854775808) < 0) := by
        rw [cmp_gt0, cmp_lt0]; unfold inR at hr; omega
      obtain ⟨x1, h1⟩ : ∃ x, cmp m 9223372036854775807 = x := ⟨_, rfl⟩
      obtain ⟨x2, h2⟩ : ∃ x, cmp m (-9223372036854775808) = x := ⟨_, rfl⟩
      rw [h1] at o1 c1
      rw [h2] at o2 c1
      have HO3 := Lib.hid o1; have HO4 := Lib.hid o2
      clear h1 h2 o1 o2 hm lm hr ha
      generalize Lib.itoa (9223372036854775807 : Int) = tmax at *
      generalize Lib.itoa (-9223372036854775808 : Int) = tmin at *
      generalize Lib.itoa m = l at *
      rcases c1 with c1 | ⟨c1, c2⟩
      · go_enter Tryz.func25, Tryz.ntmps25
        go_wp2_with fail
        ((with_reducible refine (HC.out _).mono ?_); rintro e w' ⟨rfl, rfl⟩)
        go_wp2_with fail
        ((with_reducible refine (HO1.out _).mono ?_); rintro e w1 ⟨rfl, hb1⟩)
        have hB1 := hB0.trans (hb1.mono hB0.size); clear hb1
        go_wp2_with fail
        ((with_reducible refine (HO3.out _).mono ?_); rintro e w2 ⟨rfl, hb2⟩)
        have hB2 := hB1.trans (hb2.mono hB1.size); clear hb2
        go_wp2
        go_ret2
        exact ⟨rfl, hB2⟩
      · go_enter Tryz.func25, Tryz.ntmps25
        go_wp2_with fail
        ((with_reducible refine (HC.out _).mono ?_); rintro e w' ⟨rfl, rfl⟩)
        go_wp2_with fail
        ((with_reducible refine (HO1.out _).mono ?_); rintro e w1 ⟨rfl, hb1⟩)
        have hB1 := hB0.trans (hb1.mono hB0.size); clear hb1
        go_wp2_with fail
        ((with_reducible refine (HO3.out _).mono ?_); rintro e w2 ⟨rfl, hb2⟩)
        have hB2 := hB1.trans (hb2.mono hB1.size); clear hb2
        go_wp2_with fail
        ((with_reducible refine (HO2.out _).mono ?_); rintro e w3 ⟨rfl, hb3⟩)
        have hB3 := hB2.trans (hb3.mono hB2.size); clear hb3
        go_wp2_with fail
        ((with_reducible refine (HO4.out _).mono ?_); rintro e w4 ⟨rfl, hb4⟩)
        have hB4 := hB3.trans (hb4.mono hB3.size); clear hb4
        go_wp2
        go_ret2
        exact ⟨rfl, hB4⟩

set_option maxRecDepth 100000 in
set_option maxHeartbeats 1000000 in
theorem rPow_c (a : List UInt8) (n : Int) (w : World) (ha : a.length ≤ 140737488355328) : Calls Tryz.prog 18 #[.string ⟨a.toArray⟩, .int .i64 n] w (Ret w (ans2 (un1 (pow2 n) a))) := by
  revert ha
  refine un_cases (P := fun a => a.length ≤ 140737488355328 → Calls Tryz.prog 18 #[.string ⟨a.toArray⟩, .int .i64 n] w (Ret w (ans2 (un1 (pow2 n) a)))) a ?_ ?_
  · intro h ha
    have HC := Lib.hid (fun W => Check_c a W ha)
    rw [show un1 (pow2 n) a = ([], chk a) by unfold un1; rw [if_neg h]]
    generalize chk a = x at *
    have h2 := bne_ne h
    go_enter Tryz.func18, Tryz.ntmps18
    go_wp2_with fail
    ((with_reducible refine (HC.out _).mono ?_); rintro e w' ⟨rfl, rfl⟩)
    go_wp2
    go_ret2
    exact ⟨rfl, Below.refl _ _⟩
  · intro m hm ha
    have HC := Lib.hid (fun W => Check_c (Lib.itoa m) W ha)
    rw [chk_ok hm] at HC
    rw [un1_itoa _ hm]
    by_cases hr : n < 0 ∨ 4096 < n
    · rw [show pow2 n m = ([], 2) by unfold pow2; rw [if_pos hr]]
      have hp : n < 0 ∨ (¬ n < 0 ∧ 4096 < n) := by omega
      clear hr hm
      rcases hp with h1 | ⟨h1, h2⟩
      all_goals
        go_enter Tryz.func18, Tryz.ntmps18
        go_wp2_with fail
        ((with_reducible refine (HC.out _).mono ?_); rintro e w' ⟨rfl, rfl⟩)
        go_wp2
        go_ret2
        exact ⟨rfl, Below.refl _ _⟩
    · obtain ⟨k, rfl⟩ : ∃ k : Nat, n = (k : Int) := ⟨n.toNat, by omega⟩
      have hk : k ≤ 4096 := by omega
      have h1 : ¬ (k : Int) < 0 := by omega
      have h2 : ¬ (4096 : Int) < (k : Int) := by omega
      rw [show pow2 (k : Int) m = kept (m ^ k) by unfold pow2; rw [if_neg hr]; rfl]
      have HMUL := Lib.hid (fun i (h : (m ^ i).natAbs < big) W => show Calls Tryz.prog 47 #[.string ⟨(Lib.itoa (m ^ i)).toArray⟩, .string ⟨(Lib.itoa m).toArray⟩] W (Ret W (.string ⟨(Lib.itoa (m ^ (i + 1))).toArray⟩)) from by
        rw [Int.pow_succ]; exact Times_c (m ^ i) m W (by have := lng_big h; omega) (by have := lng_big hm; omega))
      have HKP := Lib.hid (fun i W => Kept_c (m ^ (i + 1)) W)
      clear hr hm ha
      go_enter Tryz.func18, Tryz.ntmps18
      go_wp2_with fail
      ((with_reducible refine (HC.out _).mono ?_); rintro e w' ⟨rfl, rfl⟩)
      go_wp2_with fail
      go_loopw [7, 8] (fun so si wr => ∃ i : Nat, i ≤ k ∧ si = .int .i64 (i : Int) ∧ so = .string ⟨(Lib.itoa (m ^ i)).toArray⟩ ∧ Hid ((m ^ i).natAbs < big) ∧ Below w.heap.size w wr) (fun _ si _ => k - (intOf si).toNat)
      case atStart => exact ⟨0, by omega, rfl, by rw [Int.pow_zero, itoa_one], by rw [Int.pow_zero]; exact one_lt_big, Below.refl _ _⟩
      case round =>
        obtain ⟨i, hi, rfl, rfl, hbg, hB⟩ := hrel
        by_cases hik : i < k
        · have HMU := Lib.hid (HMUL.out i hbg.out wr)
          have hkp := HKP.out i
          by_cases hnx : (m ^ (i + 1)).natAbs < big
          · rw [kept_lt hnx] at hkp
            have HNX := Lib.hid hnx; have HKK := Lib.hid hkp
            clear hkp hnx
            go_wp2_with fail
            refine HMU.out.mono ?_; rintro e w2 ⟨rfl, hb2⟩
            have hB2 := hB.trans (hb2.mono hB.size)
            go_wp2_with fail
            ((with_reducible refine (HKK.out _).mono ?_); rintro e w' ⟨rfl, rfl⟩)
            go_wp2
            go_roundw
            case rel => exact ⟨i + 1, by omega, by go_num, rfl, HNX.out, hB2⟩
            case measure => simp [intOf]; omega
          · rw [kept_ge (by omega)] at hkp
            have HKK := Lib.hid hkp
            have HK := Lib.hid (kept_ge (pow_big (a := m) (i := i + 1) (n := k) (by omega) (by omega)))
            clear hkp hnx
            go_wp2_with fail
            refine HMU.out.mono ?_; rintro e w2 ⟨rfl, hb2⟩
            have hB2 := hB.trans (hb2.mono hB.size)
            go_wp2_with fail
            ((with_reducible refine (HKK.out _).mono ?_); rintro e w' ⟨rfl, rfl⟩)
            go_wp2
            go_ret2
            rw [HK.out]
            exact ⟨rfl, hB2⟩
        · obtain rfl : i = k := by omega
          have HK := Lib.hid (kept_lt hbg.out)
          go_wp2
          go_ret2
          rw [HK.out]
          exact ⟨rfl, hB⟩
end Go.Proofs.Wk
