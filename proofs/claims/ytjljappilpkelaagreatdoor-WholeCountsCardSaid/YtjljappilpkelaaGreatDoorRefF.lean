/- THE REFERENCE's sums, differences, products and the order of integers. -/
import Derived.Test.YtjljappilpkelaaGreatDoorRefE
namespace Go.Proofs.Wk
open Go.RowKit Mt

set_option maxRecDepth 100000 in
set_option maxHeartbeats 2000000 in
theorem Plus_c (m n : Int) (w : World) (hm : lng m ≤ 10000) (hn : lng n ≤ 10000) : Calls Tryz.prog 65 #[.string ⟨(Lib.itoa m).toArray⟩, .string ⟨(Lib.itoa n).toArray⟩] w (Ret w (.string ⟨(Lib.itoa (m + n)).toArray⟩)) := by
  by_cases hb : lng m ≤ 18 ∧ lng n ≤ 18
  · have b1 := (lng18 m).1 hb.1
    have b2 := (lng18 n).1 hb.2
    have m0 : -1000000000000000000 < m := by omega
    have m1 : m < 1000000000000000000 := by omega
    have n0 : -1000000000000000000 < n := by omega
    have n1 : n < 1000000000000000000 := by omega
    have HB := Lib.hid (brief_yes m n w hb.1 hb.2)
    clear hm hn hb b1 b2
    go_enter Tryz.func65, Tryz.ntmps65
    go_wp2_with fail
    refine (HB.out).mono ?_; rintro e w1 ⟨rfl, rfl⟩
    go_wp2_with fail
    refine (Of_c (m + n) _ (by omega) (by omega)).mono ?_; rintro e w2 ⟨rfl, hb2⟩
    go_wp2
    go_ret
    exact ⟨rfl, hb2⟩
  · have HB := Lib.hid (brief_no m n w hb)
    clear hb
    unfold lng at hm hn
    have hlen := dlen_add hm hn
    by_cases hsm : m < 0
    · by_cases hsn : n < 0
      · have dm : decide (m < 0) = true := by simp; omega
        have dn : decide (n < 0) = true := by simp; omega
        go_enter Tryz.func65, Tryz.ntmps65
        go_wp2_with fail
        refine (HB.out).mono ?_; rintro e w1 ⟨rfl, rfl⟩
        go_wp2_with fail
        refine (size_i m _).mono ?_; rintro e w1 ⟨rfl, rfl⟩
        go_wp2_with fail
        refine (size_i n _).mono ?_; rintro e w1 ⟨rfl, rfl⟩
        go_wp2_with fail
        refine (Below_i m _).mono ?_; rintro e w1 ⟨rfl, rfl⟩
        go_wp2_with fail
        refine (Below_i n _).mono ?_; rintro e w1 ⟨rfl, rfl⟩
        go_wp2_with fail
        refine (paper_add m.natAbs n.natAbs _ (by omega) (by omega)).mono ?_; rintro e w2 ⟨rfl, hb2⟩
        go_wp2_with fail
        refine (Below_i m _).mono ?_; rintro e w1 ⟨rfl, rfl⟩
        go_wp2_with fail
        refine (signed_c (m.natAbs + n.natAbs) _ _ (by omega)).mono ?_; rintro e w1 ⟨rfl, rfl⟩
        go_wp2
        go_ret
        exact ⟨ret_str (congrArg Lib.itoa (by first | omega | (simp; omega))), hb2⟩
      · have dm : decide (m < 0) = true := by simp; omega
        have dn : decide (n < 0) = false := by simp; omega
        by_cases hlt : m.natAbs < n.natAbs
        · have hlen2 : (Lib.decDigits (n.natAbs - m.natAbs)).length ≤ 30000 := by have := dlen_mono (a := n.natAbs - m.natAbs) (b := n.natAbs) (by omega); omega
          go_enter Tryz.func65, Tryz.ntmps65
          go_wp2_with fail
          refine (HB.out).mono ?_; rintro e w1 ⟨rfl, rfl⟩
          go_wp2_with fail
          refine (size_i m _).mono ?_; rintro e w1 ⟨rfl, rfl⟩
          go_wp2_with fail
          refine (size_i n _).mono ?_; rintro e w1 ⟨rfl, rfl⟩
          go_wp2_with fail
          refine (Below_i m _).mono ?_; rintro e w1 ⟨rfl, rfl⟩
          go_wp2_with fail
          refine (Below_i n _).mono ?_; rintro e w1 ⟨rfl, rfl⟩
          go_wp2_with fail
          refine (less_c m.natAbs n.natAbs _).mono ?_; rintro e w1 ⟨rfl, rfl⟩
          go_wp2_with fail
          refine (paper_sub n.natAbs m.natAbs _ (by omega) (by omega) (by omega)).mono ?_; rintro e w2 ⟨rfl, hb2⟩
          go_wp2_with fail
          refine (Below_i n _).mono ?_; rintro e w1 ⟨rfl, rfl⟩
          go_wp2_with fail
          refine (signed_c (n.natAbs - m.natAbs) _ _ hlen2).mono ?_; rintro e w1 ⟨rfl, rfl⟩
          go_wp2
          go_ret
          exact ⟨ret_str (congrArg Lib.itoa (by first | omega | (simp; omega))), hb2⟩
        · have hlen2 : (Lib.decDigits (m.natAbs - n.natAbs)).length ≤ 30000 := by have := dlen_mono (a := m.natAbs - n.natAbs) (b := m.natAbs) (by omega); omega
          go_enter Tryz.func65, Tryz.ntmps65
          go_wp2_with fail
          refine (HB.out).mono ?_; rintro e w1 ⟨rfl, rfl⟩
          go_wp2_with fail
          refine (size_i m _).mono ?_; rintro e w1 ⟨rfl, rfl⟩
          go_wp2_with fail
          refine (size_i n _).mono ?_; rintro e w1 ⟨rfl, rfl⟩
          go_wp2_with fail
          refine (Below_i m _).mono ?_; rintro e w1 ⟨rfl, rfl⟩
          go_wp2_with fail
          refine (Below_i n _).mono ?_; rintro e w1 ⟨rfl, rfl⟩
          go_wp2_with fail
          refine (less_c m.natAbs n.natAbs _).mono ?_; rintro e w1 ⟨rfl, rfl⟩
          go_wp2_with fail
          refine (paper_sub m.natAbs n.natAbs _ (by omega) (by omega) (by omega)).mono ?_; rintro e w2 ⟨rfl, hb2⟩
          go_wp2_with fail
          refine (Below_i m _).mono ?_; rintro e w1 ⟨rfl, rfl⟩
          go_wp2_with fail
          refine (signed_c (m.natAbs - n.natAbs) _ _ hlen2).mono ?_; rintro e w1 ⟨rfl, rfl⟩
          go_wp2
          go_ret
          exact ⟨ret_str (congrArg Lib.itoa (by first | omega | (simp; omega))), hb2⟩
    · by_cases hsn : n < 0
      · have dm : decide (m < 0) = false := by simp; omega
        have dn : decide (n < 0) = true := by simp; omega
        by_cases hlt : m.natAbs < n.natAbs
        · have hlen2 : (Lib.decDigits (n.natAbs - m.natAbs)).length ≤ 30000 := by have := dlen_mono (a := n.natAbs - m.natAbs) (b := n.natAbs) (by omega); omega
          go_enter Tryz.func65, Tryz.ntmps65
          go_wp2_with fail
          refine (HB.out).mono ?_; rintro e w1 ⟨rfl, rfl⟩
          go_wp2_with fail
          refine (size_i m _).mono ?_; rintro e w1 ⟨rfl, rfl⟩
          go_wp2_with fail
          refine (size_i n _).mono ?_; rintro e w1 ⟨rfl, rfl⟩
          go_wp2_with fail
          refine (Below_i m _).mono ?_; rintro e w1 ⟨rfl, rfl⟩
          go_wp2_with fail
          refine (Below_i n _).mono ?_; rintro e w1 ⟨rfl, rfl⟩
          go_wp2_with fail
          refine (less_c m.natAbs n.natAbs _).mono ?_; rintro e w1 ⟨rfl, rfl⟩
          go_wp2_with fail
          refine (paper_sub n.natAbs m.natAbs _ (by omega) (by omega) (by omega)).mono ?_; rintro e w2 ⟨rfl, hb2⟩
          go_wp2_with fail
          refine (Below_i n _).mono ?_; rintro e w1 ⟨rfl, rfl⟩
          go_wp2_with fail
          refine (signed_c (n.natAbs - m.natAbs) _ _ hlen2).mono ?_; rintro e w1 ⟨rfl, rfl⟩
          go_wp2
          go_ret
          exact ⟨ret_str (congrArg Lib.itoa (by first | omega | (simp; omega))), hb2⟩
        · have hlen2 : (Lib.decDigits (m.natAbs - n.natAbs)).length ≤ 30000 := by have := dlen_mono (a := m.natAbs - n.natAbs) (b := m.natAbs) (by omega); omega
          go_enter Tryz.func65, Tryz.ntmps65
          go_wp2_with fail
          refine (HB.out).mono ?_; rintro e w1 ⟨rfl, rfl⟩
          go_wp2_with fail
          refine (size_i m _).mono ?_; rintro e w1 ⟨rfl, rfl⟩
          go_wp2_with fail
          refine (size_i n _).mono ?_; rintro e w1 ⟨rfl, rfl⟩
          go_wp2_with fail
          refine (Below_i m _).mono ?_; rintro e w1 ⟨rfl, rfl⟩
          go_wp2_with fail
          refine (Below_i n _).mono ?_; rintro e w1 ⟨rfl, rfl⟩
          go_wp2_with fail
          refine (less_c m.natAbs n.natAbs _).mono ?_; rintro e w1 ⟨rfl, rfl⟩
          go_wp2_with fail
          refine (paper_sub m.natAbs n.natAbs _ (by omega) (by omega) (by omega)).mono ?_; rintro e w2 ⟨rfl, hb2⟩
          go_wp2_with fail
          refine (Below_i m _).mono ?_; rintro e w1 ⟨rfl, rfl⟩
          go_wp2_with fail
          refine (signed_c (m.natAbs - n.natAbs) _ _ hlen2).mono ?_; rintro e w1 ⟨rfl, rfl⟩
          go_wp2
          go_ret
          exact ⟨ret_str (congrArg Lib.itoa (by first | omega | (simp; omega))), hb2⟩
      · have dm : decide (m < 0) = false := by simp; omega
        have dn : decide (n < 0) = false := by simp; omega
        go_enter Tryz.func65, Tryz.ntmps65
        go_wp2_with fail
        refine (HB.out).mono ?_; rintro e w1 ⟨rfl, rfl⟩
        go_wp2_with fail
        refine (size_i m _).mono ?_; rintro e w1 ⟨rfl, rfl⟩
        go_wp2_with fail
        refine (size_i n _).mono ?_; rintro e w1 ⟨rfl, rfl⟩
        go_wp2_with fail
        refine (Below_i m _).mono ?_; rintro e w1 ⟨rfl, rfl⟩
        go_wp2_with fail
        refine (Below_i n _).mono ?_; rintro e w1 ⟨rfl, rfl⟩
        go_wp2_with fail
        refine (paper_add m.natAbs n.natAbs _ (by omega) (by omega)).mono ?_; rintro e w2 ⟨rfl, hb2⟩
        go_wp2_with fail
        refine (Below_i m _).mono ?_; rintro e w1 ⟨rfl, rfl⟩
        go_wp2_with fail
        refine (signed_c (m.natAbs + n.natAbs) _ _ (by omega)).mono ?_; rintro e w1 ⟨rfl, rfl⟩
        go_wp2
        go_ret
        exact ⟨ret_str (congrArg Lib.itoa (by first | omega | (simp; omega))), hb2⟩

set_option maxRecDepth 100000 in
set_option maxHeartbeats 2000000 in
theorem Minus_c (m n : Int) (w : World) (hm : lng m ≤ 10000) (hn : lng n ≤ 10000) : Calls Tryz.prog 67 #[.string ⟨(Lib.itoa m).toArray⟩, .string ⟨(Lib.itoa n).toArray⟩] w (Ret w (.string ⟨(Lib.itoa (m - n)).toArray⟩)) := by
  have hn2 : lng (-n) ≤ 10000 := by rw [lng_neg]; exact hn
  have hn3 : (Lib.decDigits n.natAbs).length ≤ 20000 := by unfold lng at hn; omega
  go_enter Tryz.func67, Tryz.ntmps67
  go_wp2_with fail
  refine (Turned_c n _ hn3).mono ?_; rintro e w1 ⟨rfl, rfl⟩
  go_wp2_with fail
  refine (Plus_c m (-n) _ hm hn2).mono ?_; rintro e w2 ⟨rfl, hb2⟩
  go_wp2
  go_ret
  exact ⟨ret_str (congrArg Lib.itoa (by omega)), hb2⟩

set_option maxRecDepth 100000 in
set_option maxHeartbeats 2000000 in
theorem Times_c (m n : Int) (w : World) (hm : lng m ≤ 9000) (hn : lng n ≤ 9000) : Calls Tryz.prog 47 #[.string ⟨(Lib.itoa m).toArray⟩, .string ⟨(Lib.itoa n).toArray⟩] w (Ret w (.string ⟨(Lib.itoa (m * n)).toArray⟩)) := by
  have lm := lng_itoa m
  have ln := lng_itoa n
  have l0m := lng_itoa_lo m
  have l0n := lng_itoa_lo n
  have hlm : (Lib.itoa m).length ≤ 9001 := by omega
  have hln : (Lib.itoa n).length ≤ 9001 := by omega
  have hmul := lng_mul m n hm hn
  have hprod : (Lib.decDigits (m.natAbs * n.natAbs)).length ≤ 18000 := by rw [← Int.natAbs_mul]; exact hmul
  by_cases hb : lng m ≤ 18 ∧ lng n ≤ 18
  · have HB := Lib.hid (brief_yes m n w hb.1 hb.2)
    by_cases hs : (Lib.itoa m).length + (Lib.itoa n).length ≤ 18
    · have b1 := (lng18 (m * n)).1 (by
        have := lng_mul m n (k := lng m) (j := lng n) (Nat.le_refl _) (Nat.le_refl _); omega)
      have p0 : -1000000000000000000 < m * n := by omega
      have p1 : m * n < 1000000000000000000 := by omega
      clear hb b1 hmul hprod lm ln l0m l0n hm hn
      go_enter Tryz.func47, Tryz.ntmps47
      go_wp2_with fail
      refine (HB.out).mono ?_; rintro e w1 ⟨rfl, rfl⟩
      go_wp2_with fail
      refine (Of_c (m * n) _ (by omega) (by omega)).mono ?_; rintro e w2 ⟨rfl, hb2⟩
      go_wp2
      go_ret
      exact ⟨rfl, hb2⟩
    · clear hb hmul lm ln l0m l0n
      unfold lng at hm hn
      by_cases hsm : m < 0
      · by_cases hsn : n < 0
        · have dm : decide (m < 0) = true := by simp; omega
          have dn : decide (n < 0) = true := by simp; omega
          go_enter Tryz.func47, Tryz.ntmps47
          go_wp2_with fail
          refine (HB.out).mono ?_; rintro e w1 ⟨rfl, rfl⟩
          go_wp2_with fail
          refine (size_i m _).mono ?_; rintro e w1 ⟨rfl, rfl⟩
          go_wp2_with fail
          refine (size_i n _).mono ?_; rintro e w1 ⟨rfl, rfl⟩
          go_wp2_with fail
          refine (product_c m.natAbs n.natAbs _ (by omega) (by omega)).mono ?_; rintro e w2 ⟨rfl, hb2⟩
          go_wp2_with fail
          refine (Below_i m _).mono ?_; rintro e w1 ⟨rfl, rfl⟩
          go_wp2_with fail
          refine (Below_i n _).mono ?_; rintro e w1 ⟨rfl, rfl⟩
          go_wp2_with fail
          refine (signed_c (m.natAbs * n.natAbs) _ _ (by omega)).mono ?_; rintro e w1 ⟨rfl, rfl⟩
          go_wp2
          go_ret
          refine ⟨ret_str (congrArg Lib.itoa ?_), hb2⟩
          exact mul11 (by omega) (by omega)
        · have dm : decide (m < 0) = true := by simp; omega
          have dn : decide (n < 0) = false := by simp; omega
          go_enter Tryz.func47, Tryz.ntmps47
          go_wp2_with fail
          refine (HB.out).mono ?_; rintro e w1 ⟨rfl, rfl⟩
          go_wp2_with fail
          refine (size_i m _).mono ?_; rintro e w1 ⟨rfl, rfl⟩
          go_wp2_with fail
          refine (size_i n _).mono ?_; rintro e w1 ⟨rfl, rfl⟩
          go_wp2_with fail
          refine (product_c m.natAbs n.natAbs _ (by omega) (by omega)).mono ?_; rintro e w2 ⟨rfl, hb2⟩
          go_wp2_with fail
          refine (Below_i m _).mono ?_; rintro e w1 ⟨rfl, rfl⟩
          go_wp2_with fail
          refine (Below_i n _).mono ?_; rintro e w1 ⟨rfl, rfl⟩
          go_wp2_with fail
          refine (signed_c (m.natAbs * n.natAbs) _ _ (by omega)).mono ?_; rintro e w1 ⟨rfl, rfl⟩
          go_wp2
          go_ret
          refine ⟨ret_str (congrArg Lib.itoa ?_), hb2⟩
          exact mul10 (by omega) (by omega)
      · by_cases hsn : n < 0
        · have dm : decide (m < 0) = false := by simp; omega
          have dn : decide (n < 0) = true := by simp; omega
          go_enter Tryz.func47, Tryz.ntmps47
          go_wp2_with fail
          refine (HB.out).mono ?_; rintro e w1 ⟨rfl, rfl⟩
          go_wp2_with fail
          refine (size_i m _).mono ?_; rintro e w1 ⟨rfl, rfl⟩
          go_wp2_with fail
          refine (size_i n _).mono ?_; rintro e w1 ⟨rfl, rfl⟩
          go_wp2_with fail
          refine (product_c m.natAbs n.natAbs _ (by omega) (by omega)).mono ?_; rintro e w2 ⟨rfl, hb2⟩
          go_wp2_with fail
          refine (Below_i m _).mono ?_; rintro e w1 ⟨rfl, rfl⟩
          go_wp2_with fail
          refine (Below_i n _).mono ?_; rintro e w1 ⟨rfl, rfl⟩
          go_wp2_with fail
          refine (signed_c (m.natAbs * n.natAbs) _ _ (by omega)).mono ?_; rintro e w1 ⟨rfl, rfl⟩
          go_wp2
          go_ret
          refine ⟨ret_str (congrArg Lib.itoa ?_), hb2⟩
          exact mul01 (by omega) (by omega)
        · have dm : decide (m < 0) = false := by simp; omega
          have dn : decide (n < 0) = false := by simp; omega
          go_enter Tryz.func47, Tryz.ntmps47
          go_wp2_with fail
          refine (HB.out).mono ?_; rintro e w1 ⟨rfl, rfl⟩
          go_wp2_with fail
          refine (size_i m _).mono ?_; rintro e w1 ⟨rfl, rfl⟩
          go_wp2_with fail
          refine (size_i n _).mono ?_; rintro e w1 ⟨rfl, rfl⟩
          go_wp2_with fail
          refine (product_c m.natAbs n.natAbs _ (by omega) (by omega)).mono ?_; rintro e w2 ⟨rfl, hb2⟩
          go_wp2_with fail
          refine (Below_i m _).mono ?_; rintro e w1 ⟨rfl, rfl⟩
          go_wp2_with fail
          refine (Below_i n _).mono ?_; rintro e w1 ⟨rfl, rfl⟩
          go_wp2_with fail
          refine (signed_c (m.natAbs * n.natAbs) _ _ (by omega)).mono ?_; rintro e w1 ⟨rfl, rfl⟩
          go_wp2
          go_ret
          refine ⟨ret_str (congrArg Lib.itoa ?_), hb2⟩
          exact mul00 (by omega) (by omega)
  · have HB := Lib.hid (brief_no m n w hb)
    clear hb hmul lm ln l0m l0n
    unfold lng at hm hn
    by_cases hsm : m < 0
    · by_cases hsn : n < 0
      · have dm : decide (m < 0) = true := by simp; omega
        have dn : decide (n < 0) = true := by simp; omega
        go_enter Tryz.func47, Tryz.ntmps47
        go_wp2_with fail
        refine (HB.out).mono ?_; rintro e w1 ⟨rfl, rfl⟩
        go_wp2_with fail
        refine (size_i m _).mono ?_; rintro e w1 ⟨rfl, rfl⟩
        go_wp2_with fail
        refine (size_i n _).mono ?_; rintro e w1 ⟨rfl, rfl⟩
        go_wp2_with fail
        refine (product_c m.natAbs n.natAbs _ (by omega) (by omega)).mono ?_; rintro e w2 ⟨rfl, hb2⟩
        go_wp2_with fail
        refine (Below_i m _).mono ?_; rintro e w1 ⟨rfl, rfl⟩
        go_wp2_with fail
        refine (Below_i n _).mono ?_; rintro e w1 ⟨rfl, rfl⟩
        go_wp2_with fail
        refine (signed_c (m.natAbs * n.natAbs) _ _ (by omega)).mono ?_; rintro e w1 ⟨rfl, rfl⟩
        go_wp2
        go_ret
        refine ⟨ret_str (congrArg Lib.itoa ?_), hb2⟩
        exact mul11 (by omega) (by omega)
      · have dm : decide (m < 0) = true := by simp; omega
        have dn : decide (n < 0) = false := by simp; omega
        go_enter Tryz.func47, Tryz.ntmps47
        go_wp2_with fail
        refine (HB.out).mono ?_; rintro e w1 ⟨rfl, rfl⟩
        go_wp2_with fail
        refine (size_i m _).mono ?_; rintro e w1 ⟨rfl, rfl⟩
        go_wp2_with fail
        refine (size_i n _).mono ?_; rintro e w1 ⟨rfl, rfl⟩
        go_wp2_with fail
        refine (product_c m.natAbs n.natAbs _ (by omega) (by omega)).mono ?_; rintro e w2 ⟨rfl, hb2⟩
        go_wp2_with fail
        refine (Below_i m _).mono ?_; rintro e w1 ⟨rfl, rfl⟩
        go_wp2_with fail
        refine (Below_i n _).mono ?_; rintro e w1 ⟨rfl, rfl⟩
        go_wp2_with fail
        refine (signed_c (m.natAbs * n.natAbs) _ _ (by omega)).mono ?_; rintro e w1 ⟨rfl, rfl⟩
        go_wp2
        go_ret
        refine ⟨ret_str (congrArg Lib.itoa ?_), hb2⟩
        exact mul10 (by omega) (by omega)
    · by_cases hsn : n < 0
      · have dm : decide (m < 0) = false := by simp; omega
        have dn : decide (n < 0) = true := by simp; omega
        go_enter Tryz.func47, Tryz.ntmps47
        go_wp2_with fail
        refine (HB.out).mono ?_; rintro e w1 ⟨rfl, rfl⟩
        go_wp2_with fail
        refine (size_i m _).mono ?_; rintro e w1 ⟨rfl, rfl⟩
        go_wp2_with fail
        refine (size_i n _).mono ?_; rintro e w1 ⟨rfl, rfl⟩
        go_wp2_with fail
        refine (product_c m.natAbs n.natAbs _ (by omega) (by omega)).mono ?_; rintro e w2 ⟨rfl, hb2⟩
        go_wp2_with fail
        refine (Below_i m _).mono ?_; rintro e w1 ⟨rfl, rfl⟩
        go_wp2_with fail
        refine (Below_i n _).mono ?_; rintro e w1 ⟨rfl, rfl⟩
        go_wp2_with fail
        refine (signed_c (m.natAbs * n.natAbs) _ _ (by omega)).mono ?_; rintro e w1 ⟨rfl, rfl⟩
        go_wp2
        go_ret
        refine ⟨ret_str (congrArg Lib.itoa ?_), hb2⟩
        exact mul01 (by omega) (by omega)
      · have dm : decide (m < 0) = false := by simp; omega
        have dn : decide (n < 0) = false := by simp; omega
        go_enter Tryz.func47, Tryz.ntmps47
        go_wp2_with fail
        refine (HB.out).mono ?_; rintro e w1 ⟨rfl, rfl⟩
        go_wp2_with fail
        refine (size_i m _).mono ?_; rintro e w1 ⟨rfl, rfl⟩
        go_wp2_with fail
        refine (size_i n _).mono ?_; rintro e w1 ⟨rfl, rfl⟩
        go_wp2_with fail
        refine (product_c m.natAbs n.natAbs _ (by omega) (by omega)).mono ?_; rintro e w2 ⟨rfl, hb2⟩
        go_wp2_with fail
        refine (Below_i m _).mono ?_; rintro e w1 ⟨rfl, rfl⟩
        go_wp2_with fail
        refine (Below_i n _).mono ?_; rintro e w1 ⟨rfl, rfl⟩
        go_wp2_with fail
        refine (signed_c (m.natAbs * n.natAbs) _ _ (by omega)).mono ?_; rintro e w1 ⟨rfl, rfl⟩
        go_wp2
        go_ret
        refine ⟨ret_str (congrArg Lib.itoa ?_), hb2⟩
        exact mul00 (by omega) (by omega)

set_option maxRecDepth 100000 in
set_option maxHeartbeats 2000000 in
theorem Order_c (m n : Int) (w : World) (hm : lng m ≤ 10000) (hn : lng n ≤ 10000) : Calls Tryz.prog 57 #[.string ⟨(Lib.itoa m).toArray⟩, .string ⟨(Lib.itoa n).toArray⟩] w (Ret w (.int .i64 (cmp m n))) := by
  by_cases h0 : m = n
  · subst h0
    have hM := Minus_c m m
    rw [show m - m = 0 by omega, itoa_zero] at hM
    have HM := Lib.hid hM
    rw [cmp_eq]
    clear hM
    go_enter Tryz.func57, Tryz.ntmps57
    go_wp2_with fail
    refine (HM.out _ hm hn).mono ?_; rintro e w2 ⟨rfl, hb2⟩
    go_wp2
    go_ret
    exact ⟨rfl, hb2⟩
  · have hne : ¬ Lib.itoa (m - n) = [48] := fun e => h0 (by have := itoa_eq_zero.1 e; omega)
    have hne2 : (Lib.itoa (m - n) == [48]) = false := by simpa using hne
    by_cases hlt : m < n
    · have hd : m - n < 0 := by omega
      rw [cmp_lt hlt]
      go_enter Tryz.func57, Tryz.ntmps57
      go_wp2_with fail
      refine (Minus_c m n _ hm hn).mono ?_; rintro e w2 ⟨rfl, hb2⟩
      go_wp2_with fail
      refine (Below_i (m - n) _).mono ?_; rintro e w1 ⟨rfl, rfl⟩
      go_wp2
      go_ret
      exact ⟨rfl, hb2⟩
    · have hd : ¬ m - n < 0 := by omega
      rw [cmp_gt (show n < m by omega)]
      go_enter Tryz.func57, Tryz.ntmps57
      go_wp2_with fail
      refine (Minus_c m n _ hm hn).mono ?_; rintro e w2 ⟨rfl, hb2⟩
      go_wp2_with fail
      refine (Below_i (m - n) _).mono ?_; rintro e w1 ⟨rfl, rfl⟩
      go_wp2
      go_ret
      exact ⟨rfl, hb2⟩

set_option maxRecDepth 100000 in
set_option maxHeartbeats 2000000 in
theorem Kept_c (m : Int) (w : World) : Calls Tryz.prog 46 #[.string ⟨(Lib.itoa m).toArray⟩] w (Pur w (ans2 (kept m))) := by
  by_cases h : m.natAbs < big
  · have hl := lng_big h
    unfold lng at hl
    rw [show kept m = (Lib.itoa m, 0) by unfold kept; rw [if_pos h]]
    clear h
    go_enter Tryz.func46, Tryz.ntmps46
    go_wp2_with fail
    refine (size_i m _).mono ?_; rintro e w1 ⟨rfl, rfl⟩
    go_wp2
    go_ret2
    exact ⟨rfl, rfl⟩
  · have hl : ¬ lng m ≤ 1024 := fun x => h (lng_big_iff.1 x)
    unfold lng at hl
    rw [show kept m = ([], 11) by unfold kept; rw [if_neg h]]
    clear h
    go_enter Tryz.func46, Tryz.ntmps46
    go_wp2_with fail
    refine (size_i m _).mono ?_; rintro e w1 ⟨rfl, rfl⟩
    go_wp2
    go_ret2
    exact ⟨rfl, rfl⟩

set_option maxRecDepth 100000 in
set_option maxHeartbeats 2000000 in
theorem both_c (a b : List UInt8) (w : World) (ha : a.length ≤ 140737488355328) (hb : b.length ≤ 140737488355328) : Calls Tryz.prog 45 #[.string ⟨a.toArray⟩, .string ⟨b.toArray⟩] w (Pur w (.int .i64 (both a b))) := by
  have HA := Lib.hid (Check_c a w ha)
  have HB := Lib.hid (Check_c b w hb)
  unfold both
  generalize chk a = x at *
  generalize chk b = y at *
  by_cases h : x = 0
  · subst h
    rw [if_pos rfl]
    go_enter Tryz.func45, Tryz.ntmps45
    go_wp2_with fail
    refine (HA.out).mono ?_; rintro e w1 ⟨rfl, rfl⟩
    go_wp2_with fail
    refine (HB.out).mono ?_; rintro e w1 ⟨rfl, rfl⟩
    go_wp2
    go_ret
    exact ⟨rfl, rfl⟩
  · rw [if_neg h]
    have h2 : (x != 0) = true := by rw [bne_iff_ne]; exact h
    go_enter Tryz.func45, Tryz.ntmps45
    go_wp2_with fail
    refine (HA.out).mono ?_; rintro e w1 ⟨rfl, rfl⟩
    go_wp2
    go_ret
    exact ⟨rfl, rfl⟩

set_option maxRecDepth 100000 in
set_option maxHeartbeats 2000000 in
theorem Add_c (a b : List UInt8) (w : World) (ha : a.length ≤ 140737488355328) (hb : b.length ≤ 140737488355328) : Calls Tryz.prog 33 #[.string ⟨a.toArray⟩, .string ⟨b.toArray⟩] w (Ret w (ans2 (bin2 (fun m n => kept (m + n)) a b))) := by
  have HB := Lib.hid (both_c a b w ha hb)
  by_cases h : both a b = 0
  · rw [show bin2 (fun m n => kept (m + n)) a b = (fun m n => kept (m + n)) (val a) (val b) by unfold bin2; rw [if_pos h]]
    obtain ⟨ea, la⟩ := ok_text (both_zero.1 h).1
    obtain ⟨eb, lb⟩ := ok_text (both_zero.1 h).2
    rw [h] at HB
    rw [← ea, ← eb] at HB
    rw [show (Calls Tryz.prog 33 #[.string ⟨a.toArray⟩, .string ⟨b.toArray⟩] w) = (Calls Tryz.prog 33 #[.string ⟨(Lib.itoa (val a)).toArray⟩, .string ⟨(Lib.itoa (val b)).toArray⟩] w) by rw [ea, eb]]
    have hm := lng_big la
    have hn := lng_big lb
    clear h ha hb ea eb la lb
    generalize val a = m at *
    generalize val b = n at *
    have hm9 : lng m ≤ 9000 := by omega
    have hn9 : lng n ≤ 9000 := by omega
    have hm10 : lng m ≤ 10000 := by omega
    have hn10 : lng n ≤ 10000 := by omega
    go_enter Tryz.func33, Tryz.ntmps33
    go_wp2_with fail
    refine (HB.out).mono ?_; rintro e w1 ⟨rfl, rfl⟩
    go_wp2_with fail
    refine (Plus_c m n _ hm10 hn10).mono ?_; rintro e w2 ⟨rfl, hb2⟩
    go_wp2_with fail
    refine (Kept_c (m + n) _).mono ?_; rintro e w1 ⟨rfl, rfl⟩
    go_wp2
    go_ret2
    exact ⟨rfl, hb2⟩
  · rw [show bin2 (fun m n => kept (m + n)) a b = ([], both a b) by unfold bin2; rw [if_neg h]]
    generalize both a b = x at *
    have h2 : (x != 0) = true := by rw [bne_iff_ne]; exact h
    go_enter Tryz.func33, Tryz.ntmps33
    go_wp2_with fail
    refine (HB.out).mono ?_; rintro e w1 ⟨rfl, rfl⟩
    go_wp2
    go_ret2
    exact ⟨rfl, Below.refl _ _⟩

set_option maxRecDepth 100000 in
set_option maxHeartbeats 2000000 in
theorem Sub_c (a b : List UInt8) (w : World) (ha : a.length ≤ 140737488355328) (hb : b.length ≤ 140737488355328) : Calls Tryz.prog 35 #[.string ⟨a.toArray⟩, .string ⟨b.toArray⟩] w (Ret w (ans2 (bin2 (fun m n => kept (m - n)) a b))) := by
  have HB := Lib.hid (both_c a b w ha hb)
  by_cases h : both a b = 0
  · rw [show bin2 (fun m n => kept (m - n)) a b = (fun m n => kept (m - n)) (val a) (val b) by unfold bin2; rw [if_pos h]]
    obtain ⟨ea, la⟩ := ok_text (both_zero.1 h).1
    obtain ⟨eb, lb⟩ := ok_text (both_zero.1 h).2
    rw [h] at HB
    rw [← ea, ← eb] at HB
    rw [show (Calls Tryz.prog 35 #[.string ⟨a.toArray⟩, .string ⟨b.toArray⟩] w) = (Calls Tryz.prog 35 #[.string ⟨(Lib.itoa (val a)).toArray⟩, .string ⟨(Lib.itoa (val b)).toArray⟩] w) by rw [ea, eb]]
    have hm := lng_big la
    have hn := lng_big lb
    clear h ha hb ea eb la lb
    generalize val a = m at *
    generalize val b = n at *
    have hm9 : lng m ≤ 9000 := by omega
    have hn9 : lng n ≤ 9000 := by omega
    have hm10 : lng m ≤ 10000 := by omega
    have hn10 : lng n ≤ 10000 := by omega
    go_enter Tryz.func35, Tryz.ntmps35
    go_wp2_with fail
    refine (HB.out).mono ?_; rintro e w1 ⟨rfl, rfl⟩
    go_wp2_with fail
    refine (Minus_c m n _ hm10 hn10).mono ?_; rintro e w2 ⟨rfl, hb2⟩
    go_wp2_with fail
    refine (Kept_c (m - n) _).mono ?_; rintro e w1 ⟨rfl, rfl⟩
    go_wp2
    go_ret2
    exact ⟨rfl, hb2⟩
  · rw [show bin2 (fun m n => kept (m - n)) a b = ([], both a b) by unfold bin2; rw [if_neg h]]
    generalize both a b = x at *
    have h2 : (x != 0) = true := by rw [bne_iff_ne]; exact h
    go_enter Tryz.func35, Tryz.ntmps35
    go_wp2_with fail
    refine (HB.out).mono ?_; rintro e w1 ⟨rfl, rfl⟩
    go_wp2
    go_ret2
    exact ⟨rfl, Below.refl _ _⟩

set_option maxRecDepth 100000 in
set_option maxHeartbeats 2000000 in
theorem Mul_c (a b : List UInt8) (w : World) (ha : a.length ≤ 140737488355328) (hb : b.length ≤ 140737488355328) : Calls Tryz.prog 11 #[.string ⟨a.toArray⟩, .string ⟨b.toArray⟩] w (Ret w (ans2 (bin2 (fun m n => kept (m * n)) a b))) := by
  have HB := Lib.hid (both_c a b w ha hb)
  by_cases h : both a b = 0
  · rw [show bin2 (fun m n => kept (m * n)) a b = (fun m n => kept (m * n)) (val a) (val b) by unfold bin2; rw [if_pos h]]
    obtain ⟨ea, la⟩ := ok_text (both_zero.1 h).1
    obtain ⟨eb, lb⟩ := ok_text (both_zero.1 h).2
    rw [h] at HB
    rw [← ea, ← eb] at HB
    rw [show (Calls Tryz.prog 11 #[.string ⟨a.toArray⟩, .string ⟨b.toArray⟩] w) = (Calls Tryz.prog 11 #[.string ⟨(Lib.itoa (val a)).toArray⟩, .string ⟨(Lib.itoa (val b)).toArray⟩] w) by rw [ea, eb]]
    have hm := lng_big la
    have hn := lng_big lb
    clear h ha hb ea eb la lb
    generalize val a = m at *
    generalize val b = n at *
    have hm9 : lng m ≤ 9000 := by omega
    have hn9 : lng n ≤ 9000 := by omega
    have hm10 : lng m ≤ 10000 := by omega
    have hn10 : lng n ≤ 10000 := by omega
    go_enter Tryz.func11, Tryz.ntmps11
    go_wp2_with fail
    refine (HB.out).mono ?_; rintro e w1 ⟨rfl, rfl⟩
    go_wp2_with fail
    refine (Times_c m n _ hm9 hn9).mono ?_; rintro e w2 ⟨rfl, hb2⟩
    go_wp2_with fail
    refine (Kept_c (m * n) _).mono ?_; rintro e w1 ⟨rfl, rfl⟩
    go_wp2
    go_ret2
    exact ⟨rfl, hb2⟩
  · rw [show bin2 (fun m n => kept (m * n)) a b = ([], both a b) by unfold bin2; rw [if_neg h]]
    generalize both a b = x at *
    have h2 : (x != 0) = true := by rw [bne_iff_ne]; exact h
    go_enter Tryz.func11, Tryz.ntmps11
    go_wp2_with fail
    refine (HB.out).mono ?_; rintro e w1 ⟨rfl, rfl⟩
    go_wp2
    go_ret2
    exact ⟨rfl, Below.refl _ _⟩

end Go.Proofs.Wk
