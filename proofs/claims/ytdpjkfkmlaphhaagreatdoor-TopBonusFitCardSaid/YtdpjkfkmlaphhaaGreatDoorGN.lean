/- THE REFERENCE's sums, differences, products and the order of integers. -/
import Derived.Test.YtdpjkfkmlaphhaaGreatDoorGD
import Derived.Test.YtdpjkfkmlaphhaaGreatDoorGI
import Derived.Test.YtdpjkfkmlaphhaaGreatDoorGK
namespace Go.Proofs.Wk
open Go.RowKit Mt

set_option maxRecDepth 100000 in
set_option maxHeartbeats 2000000 in
theorem Plus_c (m n : Int) (w : World) (hm : lng m ≤ 10000) (hn : lng n ≤ 10000) : Calls Tryz.prog 221 #[.string ⟨(Lib.itoa m).toArray⟩, .string ⟨(Lib.itoa n).toArray⟩] w (Ret w (.string ⟨(Lib.itoa (m + n)).toArray⟩)) := by
  by_cases hb : lng m ≤ 18 ∧ lng n ≤ 18
  · have b1 := (lng18 m).1 hb.1
    have b2 := (lng18 n).1 hb.2
    have m0 : -1000000000000000000 < m := by omega
    have m1 : m < 1000000000000000000 := by omega
    have n0 : -1000000000000000000 < n := by omega
    have n1 : n < 1000000000000000000 := by omega
    have HB := Lib.hid (brief_yes m n w hb.1 hb.2)
    clear hm hn hb b1 b2
    go_enter Tryz.func221, Tryz.ntmps221
    go_wp2_with fail
    refine (HB.out).mono ?_; rintro e w1 ⟨rfl, rfl⟩
    go_wp2_with fail
    refine (Of_c (m + n) _ (by omega) (by omega)).mono ?_; rintro e w2 ⟨rfl, hb2⟩
    go_wp2
    go_ret
    exact ⟨rfl, hb2⟩
  · have HB := Lib.hid (brief_no m n w hb)
    clear hb
    unfold lng at hm hn
    have hlen := dlen_add hm hn
    by_cases hsm : m < 0
    · by_cases hsn : n < 0
      · have dm : decide (m < 0) = true := by simp; omega
        have dn : decide (n < 0) = true := by simp; omega
        go_enter Tryz.func221, Tryz.ntmps221
        go_wp2_with fail
        refine (HB.out).mono ?_; rintro e w1 ⟨rfl, rfl⟩
        go_wp2_with fail
        refine (size_i m _).mono ?_; rintro e w1 ⟨rfl, rfl⟩
        go_wp2_with fail
        refine (size_i n _).mono ?_; rintro e w1 ⟨rfl, rfl⟩
        go_wp2_with fail
        refine (Below_i m _).mono ?_; rintro e w1 ⟨rfl, rfl⟩
        go_wp2_with fail
        refine (Below_i n _).mono ?_; rintro e w1 ⟨rfl, rfl⟩
        go_wp2_with fail
        refine (paper_add m.natAbs n.natAbs _ (by omega) (by omega)).mono ?_; rintro e w2 ⟨rfl, hb2⟩
        go_wp2_with fail
        refine (Below_i m _).mono ?_; rintro e w1 ⟨rfl, rfl⟩
        go_wp2_with fail
        refine (signed_c (m.natAbs + n.natAbs) _ _ (by omega)).mono ?_; rintro e w1 ⟨rfl, rfl⟩
        go_wp2
        go_ret
        exact ⟨ret_str (congrArg Lib.itoa (by first | omega | (simp; omega))), hb2⟩
      · have dm : decide (m < 0) = true := by simp; omega
        have dn : decide (n < 0) = false := by simp; omega
        by_cases hlt : m.natAbs < n.natAbs
        · have hlen2 : (Lib.decDigits (n.natAbs - m.natAbs)).length ≤ 30000 := by have := dlen_mono (a := n.natAbs - m.natAbs) (b := n.natAbs) (by omega); omega
          go_enter Tryz.func221, Tryz.ntmps221
          go_wp2_with fail
          refine (HB.out).mono ?_; rintro e w1 ⟨rfl, rfl⟩
          go_wp2_with fail
          refine (size_i m _).mono ?_; rintro e w1 ⟨rfl, rfl⟩
          go_wp2_with fail
          refine (size_i n _).mono ?_; rintro e w1 ⟨rfl, rfl⟩
          go_wp2_with fail
          refine (Below_i m _).mono ?_; rintro e w1 ⟨rfl, rfl⟩
          go_wp2_with fail
          refine (Below_i n _).mono ?_; rintro e w1 ⟨rfl, rfl⟩
          go_wp2_with fail
          refine (less_c m.natAbs n.natAbs _).mono ?_; rintro e w1 ⟨rfl, rfl⟩
          go_wp2_with fail
          refine (paper_sub n.natAbs m.natAbs _ (by omega) (by omega) (by omega)).mono ?_; rintro e w2 ⟨rfl, hb2⟩
          go_wp2_with fail
          refine (Below_i n _).mono ?_; rintro e w1 ⟨rfl, rfl⟩
          go_wp2_with fail
          refine (signed_c (n.natAbs - m.natAbs) _ _ hlen2).mono ?_; rintro e w1 ⟨rfl, rfl⟩
          go_wp2
          go_ret
          exact ⟨ret_str (congrArg Lib.itoa (by first | omega | (simp; omega))), hb2⟩
        · have hlen2 : (Lib.decDigits (m.natAbs - n.natAbs)).length ≤ 30000 := by have := dlen_mono (a := m.natAbs - n.natAbs) (b := m.natAbs) (by omega); omega
          go_enter Tryz.func221, Tryz.ntmps221
          go_wp2_with fail
          refine (HB.out).mono ?_; rintro e w1 ⟨rfl, rfl⟩
          go_wp2_with fail
          refine (size_i m _).mono ?_; rintro e w1 ⟨rfl, rfl⟩
          go_wp2_with fail
          refine (size_i n _).mono ?_; rintro e w1 ⟨rfl, rfl⟩
          go_wp2_with fail
          refine (Below_i m _).mono ?_; rintro e w1 ⟨rfl, rfl⟩
          go_wp2_with fail
          refine (Below_i n _).mono ?_; rintro e w1 ⟨rfl, rfl⟩
          go_wp2_with fail
          refine (less_c m.natAbs n.natAbs _).mono ?_; rintro e w1 ⟨rfl, rfl⟩
          go_wp2_with fail
          refine (paper_sub m.natAbs n.natAbs _ (by omega) (by omega) (by omega)).mono ?_; rintro e w2 ⟨rfl, hb2⟩
          go_wp2_with fail
          refine (Below_i m _).mono ?_; rintro e w1 ⟨rfl, rfl⟩
          go_wp2_with fail
          refine (signed_c (m.natAbs - n.natAbs) _ _ hlen2).mono ?_; rintro e w1 ⟨rfl, rfl⟩
          go_wp2
          go_ret
          exact ⟨ret_str (congrArg Lib.itoa (by first | omega | (simp; omega))), hb2⟩
    · by_cases hsn : n < 0
      · have dm : decide (m < 0) = false := by simp; omega
        have dn : decide (n < 0) = true := by simp; omega
        by_cases hlt : m.natAbs < n.natAbs
        · have hlen2 : (Lib.decDigits (n.natAbs - m.natAbs)).length ≤ 30000 := by have := dlen_mono (a := n.natAbs - m.natAbs) (b := n.natAbs) (by omega); omega
          go_enter Tryz.func221, Tryz.ntmps221
          go_wp2_with fail
          refine (HB.out).mono ?_; rintro e w1 ⟨rfl, rfl⟩
          go_wp2_with fail
          refine (size_i m _).mono ?_; rintro e w1 ⟨rfl, rfl⟩
          go_wp2_with fail
          refine (size_i n _).mono ?_; rintro e w1 ⟨rfl, rfl⟩
          go_wp2_with fail
          refine (Below_i m _).mono ?_; rintro e w1 ⟨rfl, rfl⟩
          go_wp2_with fail
          refine (Below_i n _).mono ?_; rintro e w1 ⟨rfl, rfl⟩
          go_wp2_with fail
          refine (less_c m.natAbs n.natAbs _).mono ?_; rintro e w1 ⟨rfl, rfl⟩
          go_wp2_with fail
          refine (paper_sub n.natAbs m.natAbs _ (by omega) (by omega) (by omega)).mono ?_; rintro e w2 ⟨rfl, hb2⟩
          go_wp2_with fail
          refine (Below_i n _).mono ?_; rintro e w1 ⟨rfl, rfl⟩
          go_wp2_with fail
          refine (signed_c (n.natAbs - m.natAbs) _ _ hlen2).mono ?_; rintro e w1 ⟨rfl, rfl⟩
          go_wp2
          go_ret
          exact ⟨ret_str (congrArg Lib.itoa (by first | omega | (simp; omega))), hb2⟩
        · have hlen2 : (Lib.decDigits (m.natAbs - n.natAbs)).length ≤ 30000 := by have := dlen_mono (a := m.natAbs - n.natAbs) (b := m.natAbs) (by omega); omega
          go_enter Tryz.func221, Tryz.ntmps221
          go_wp2_with fail
          refine (HB.out).mono ?_; rintro e w1 ⟨rfl, rfl⟩
          go_wp2_with fail
          refine (size_i m _).mono ?_; rintro e w1 ⟨rfl, rfl⟩
          go_wp2_with fail
          refine (size_i n _).mono ?_; rintro e w1 ⟨rfl, rfl⟩
          go_wp2_with fail
          refine (Below_i m _).mono ?_; rintro e w1 ⟨rfl, rfl⟩
          go_wp2_with fail
          refine (Below_i n _).mono ?_; rintro e w1 ⟨rfl, rfl⟩
          go_wp2_with fail
          refine (less_c m.natAbs n.natAbs _).mono ?_; rintro e w1 ⟨rfl, rfl⟩
          go_wp2_with fail
          refine (paper_sub m.natAbs n.natAbs _ (by omega) (by omega) (by omega)).mono ?_; rintro e w2 ⟨rfl, hb2⟩
          go_wp2_with fail
          refine (Below_i m _).mono ?_; rintro e w1 ⟨rfl, rfl⟩
          go_wp2_with fail
          refine (signed_c (m.natAbs - n.natAbs) _ _ hlen2).mono ?_; rintro e w1 ⟨rfl, rfl⟩
          go_wp2
          go_ret
          exact ⟨ret_str (congrArg Lib.itoa (by first | omega | (simp; omega))), hb2⟩
      · have dm : decide (m < 0) = false := by simp; omega
        have dn : decide (n < 0) = false := by simp; omega
        go_enter Tryz.func221, Tryz.ntmps221
        go_wp2_with fail
        refine (HB.out).mono ?_; rintro e w1 ⟨rfl, rfl⟩
        go_wp2_with fail
        refine (size_i m _).mono ?_; rintro e w1 ⟨rfl, rfl⟩
        go_wp2_with fail
        refine (size_i n _).mono ?_; rintro e w1 ⟨rfl, rfl⟩
        go_wp2_with fail
        refine (Below_i m _).mono ?_; rintro e w1 ⟨rfl, rfl⟩
        go_wp2_with fail
        refine (Below_i n _).mono ?_; rintro e w1 ⟨rfl, rfl⟩
        go_wp2_with fail
        refine (paper_add m.natAbs n.natAbs _ (by omega) (by omega)).mono ?_; rintro e w2 ⟨rfl, hb2⟩
        go_wp2_with fail
        refine (Below_i m _).mono ?_; rintro e w1 ⟨rfl, rfl⟩
        go_wp2_with fail
        refine (signed_c (m.natAbs + n.natAbs) _ _ (by omega)).mono ?_; rintro e w1 ⟨rfl, rfl⟩
        go_wp2
        go_ret
        exact ⟨ret_str (congrArg Lib.itoa (by first | omega | (simp; omega))), hb2⟩

set_option maxRecDepth 100000 in
set_option maxHeartbeats 2000000 in
theorem Minus_c (m n : Int) (w : World) (hm : lng m ≤ 10000) (hn : lng n ≤ 10000) : Calls Tryz.prog 170 #[.string ⟨(Lib.itoa m).toArray⟩, .string ⟨(Lib.itoa n).toArray⟩] w (Ret w (.string ⟨(Lib.itoa (m - n)).toArray⟩)) := by
  have hn2 : lng (-n) ≤ 10000 := by rw [lng_neg]; exact hn
  have hn3 : (Lib.decDigits n.natAbs).length ≤ 20000 := by unfold lng at hn; omega
  go_enter Tryz.func170, Tryz.ntmps170
  go_wp2_with fail
  refine (Turned_c n _ hn3).mono ?_; rintro e w1 ⟨rfl, rfl⟩
  go_wp2_with fail
  refine (Plus_c m (-n) _ hm hn2).mono ?_; rintro e w2 ⟨rfl, hb2⟩
  go_wp2
  go_ret
  exact ⟨ret_str (congrArg Lib.itoa (by omega)), hb2⟩

set_option maxRecDepth 100000 in
set_option maxHeartbeats 2000000 in
theorem Times_c (m n : Int) (w : World) (hm : lng m ≤ 9000) (hn : lng n ≤ 9000) : Calls Tryz.prog 124 #[.string ⟨(Lib.itoa m).toArray⟩, .string ⟨(Lib.itoa n).toArray⟩] w (Ret w (.string ⟨(Lib.itoa (m * n)).toArray⟩)) := by
  have lm := lng_itoa m
  have ln := lng_itoa n
  have l0m := lng_itoa_lo m
  have l0n := lng_itoa_lo n
  have hlm : (Lib.itoa m).length ≤ 9001 := by omega
  have hln : (Lib.itoa n).length ≤ 9001 := by omega
  have hmul := lng_mul m n hm hn
  have hprod : (Lib.decDigits (m.natAbs * n.natAbs)).length ≤ 18000 := by rw [← Int.natAbs_mul]; exact hmul
  by_cases hb : lng m ≤ 18 ∧ lng n ≤ 18
  · have HB := Lib.hid (brief_yes m n w hb.1 hb.2)
    by_cases hs : (Lib.itoa m).length + (Lib.itoa n).length ≤ 18
    · have b1 := (lng18 (m * n)).1 (by
        have := lng_mul m n (k := lng m) (j := lng n) (Nat.le_refl _) (Nat.le_refl _); omega)
      have p0 : -1000000000000000000 < m * n := by omega
      have p1 : m * n < 1000000000000000000 := by omega
      clear hb b1 hmul hprod lm ln l0m l0n hm hn
      go_enter Tryz.func124, Tryz.ntmps124
      go_wp2_with fail
      refine (HB.out).mono ?_; rintro e w1 ⟨rfl, rfl⟩
      go_wp2_with fail
      refine (Of_c (m * n) _ (by omega) (by omega)).mono ?_; rintro e w2 ⟨rfl, hb2⟩
      go_wp2
      go_ret
      exact ⟨rfl, hb2⟩
    · clear hb hmul lm ln l0m l0n
      unfold lng at hm hn
      by_cases hsm : m < 0
      · by_cases hsn : n < 0
        · have dm : decide (m < 0) = true := by simp; omega
          have dn : decide (n < 0) = true := by simp; omega
          go_enter Tryz.func124, Tryz.ntmps124
          go_wp2_with fail
          refine (HB.out).mono ?_; rintro e w1 ⟨rfl, rfl⟩
          go_wp2_with fail
          refine (size_i m _).mono ?_; rintro e w1 ⟨rfl, rfl⟩
          go_wp2_with fail
          refine (size_i n _).mono ?_; rintro e w1 ⟨rfl, rfl⟩
          go_wp2_with fail
          refine (product_c m.natAbs n.natAbs _ (by omega) (by omega)).mono ?_; rintro e w2 ⟨rfl, hb2⟩
          go_wp2_with fail
          refine (Below_i m _).mono ?_; rintro e w1 ⟨rfl, rfl⟩
          go_wp2_with fail
          refine (Below_i n _).mono ?_; rintro e w1 ⟨rfl, rfl⟩
          go_wp2_with fail
          refine (signed_c (m.natAbs * n.natAbs) _ _ (by omega)).mono ?_; rintro e w1 ⟨rfl, rfl⟩
          go_wp2
          go_ret
          refine ⟨ret_str (congrArg Lib.itoa ?_), hb2⟩
          exact mul11 (by omega) (by omega)
        · have dm : decide (m < 0) = true := by simp; omega
          have dn : decide (n < 0) = false := by simp; omega
          go_enter Tryz.func124, Tryz.ntmps124
          go_wp2_with fail
          refine (HB.out).mono ?_; rintro e w1 ⟨rfl, rfl⟩
          go_wp2_with fail
          refine (size_i m _).mono ?_; rintro e w1 ⟨rfl, rfl⟩
          go_wp2_with fail
          refine (size_i n _).mono ?_; rintro e w1 ⟨rfl, rfl⟩
          go_wp2_with fail
          refine (product_c m.natAbs n.natAbs _ (by omega) (by omega)).mono ?_; rintro e w2 ⟨rfl, hb2⟩
          go_wp2_with fail
          refine (Below_i m _).mono ?_; rintro e w1 ⟨rfl, rfl⟩
          go_wp2_with fail
          refine (Below_i n _).mono ?_; rintro e w1 ⟨rfl, rfl⟩
          go_wp2_with fail
          refine (signed_c (m.natAbs * n.natAbs) _ _ (by omega)).mono ?_; rintro e w1 ⟨rfl, rfl⟩
          go_wp2
          go_ret
          refine ⟨ret_str (congrArg Lib.itoa ?_), hb2⟩
          exact mul10 (by omega) (by omega)
      · by_cases hsn : n < 0
        · have dm : decide (m < 0) = false := by simp; omega
          have dn : decide (n < 0) = true := by simp; omega
          go_enter Tryz.func124, Tryz.ntmps124
          go_wp2_with fail
          refine (HB.out).mono ?_; rintro e w1 ⟨rfl, rfl⟩
          go_wp2_with fail
          refine (size_i m _).mono ?_; rintro e w1 ⟨rfl, rfl⟩
          go_wp2_with fail
          refine (size_i n _).mono ?_; rintro e w1 ⟨rfl, rfl⟩
          go_wp2_with fail
          refine (product_c m.natAbs n.natAbs _ (by omega) (by omega)).mono ?_; rintro e w2 ⟨rfl, hb2⟩
          go_wp2_with fail
          refine (Below_i m _).mono ?_; rintro e w1 ⟨rfl, rfl⟩
          go_wp2_with fail
          refine (Below_i n _).mono ?_; rintro e w1 ⟨rfl, rfl⟩
          go_wp2_with fail
          refine (signed_c (m.natAbs * n.natAbs) _ _ (by omega)).mono ?_; rintro e w1 ⟨rfl, rfl⟩
          go_wp2
          go_ret
          refine ⟨ret_str (congrArg Lib.itoa ?_), hb2⟩
          exact mul01 (by omega) (by omega)
        · have dm : decide (m < 0) = false := by simp; omega
          have dn : decide (n < 0) = false := by simp; omega
          go_enter Tryz.func124, Tryz.ntmps124
          go_wp2_with fail
          refine (HB.out).mono ?_; rintro e w1 ⟨rfl, rfl⟩
          go_wp2_with fail
          refine (size_i m _).mono ?_; rintro e w1 ⟨rfl, rfl⟩
          go_wp2_with fail
          refine (size_i n _).mono ?_; rintro e w1 ⟨rfl, rfl⟩
          go_wp2_with fail
          refine (product_c m.natAbs n.natAbs _ (by omega) (by omega)).mono ?_; rintro e w2 ⟨rfl, hb2⟩
          go_wp2_with fail
          refine (Below_i m _).mono ?_; rintro e w1 ⟨rfl, rfl⟩
          go_wp2_with fail
          refine (Below_i n _).mono ?_; rintro e w1 ⟨rfl, rfl⟩
          go_wp2_with fail
          refine (signed_c (m.natAbs * n.natAbs) _ _ (by omega)).mono ?_; rintro e w1 ⟨rfl, rfl⟩
          go_wp2
          go_ret
          refine ⟨ret_str (congrArg Lib.itoa ?_), hb2⟩
          exact mul00 (by omega) (by omega)
  · have HB := Lib.hid (brief_no m n w hb)
    clear hb hmul lm ln l0m l0n
    unfold lng at hm hn
    by_cases hsm : m < 0
    · by_cases hsn : n < 0
      · have dm : decide (m < 0) = true := by simp; omega
        have dn : decide (n < 0) = true := by simp; omega
        go_enter Tryz.func124, Tryz.ntmps124
        go_wp2_with fail
        refine (HB.out).mono ?_; rintro e w1 ⟨rfl, rfl⟩
        go_wp2_with fail
        refine (size_i m _).mono ?_; rintro e w1 ⟨rfl, rfl⟩
        go_wp2_with fail
        refine (size_i n _).mono ?_; rintro e w1 ⟨rfl, rfl⟩
        go_wp2_with fail
        refine (product_c m.natAbs n.natAbs _ (by omega) (by omega)).mono ?_; rintro e w2 ⟨rfl, hb2⟩
        go_wp2_with fail
        refine (Below_i m _).mono ?_; rintro e w1 ⟨rfl, rfl⟩
        go_wp2_with fail
        refine (Below_i n _).mono ?_; rintro e w1 ⟨rfl, rfl⟩
        go_wp2_with fail
        refine (signed_c (m.natAbs * n.natAbs) _ _ (by omega)).mono ?_; rintro e w1 ⟨rfl, rfl⟩
        go_wp2
        go_ret
        refine ⟨ret_str (congrArg Lib.itoa ?_), hb2⟩
        exact mul11 (by omega) (by omega)
      · have dm : decide (m < 0) = true := by simp; omega
        have dn : decide (n < 0) = false := by simp; omega
        go_enter Tryz.func124, Tryz.ntmps124
        go_wp2_with fail
        refine (HB.out).mono ?_; rintro e w1 ⟨rfl, rfl⟩
        go_wp2_with fail
        refine (size_i m _).mono ?_; rintro e w1 ⟨rfl, rfl⟩
        go_wp2_with fail
        refine (size_i n _).mono ?_; rintro e w1 ⟨rfl, rfl⟩
        go_wp2_with fail
        refine (product_c m.natAbs n.natAbs _ (by omega) (by omega)).mono ?_; rintro e w2 ⟨rfl, hb2⟩
        go_wp2_with fail
        refine (Below_i m _).mono ?_; rintro e w1 ⟨rfl, rfl⟩
        go_wp2_with fail
        refine (Below_i n _).mono ?_; rintro e w1 ⟨rfl, rfl⟩
        go_wp2_with fail
        refine (signed_c (m.natAbs * n.natAbs) _ _ (by omega)).mono ?_; rintro e w1 ⟨rfl, rfl⟩
        go_wp2
        go_ret
        refine ⟨ret_str (congrArg Lib.itoa ?_), hb2⟩
        exact mul10 (by omega) (by omega)
    · by_cases hsn : n < 0
      · have dm : decide (m < 0) = false := by simp; omega
        have dn : decide (n < 0) = true := by simp; omega
        go_enter Tryz.func124, Tryz.ntmps124
        go_wp2_with fail
        refine (HB.out).mono ?_; rintro e w1 ⟨rfl, rfl⟩
        go_wp2_with fail
        refine (size_i m _).mono ?_; rintro e w1 ⟨rfl, rfl⟩
        go_wp2_with fail
        refine (size_i n _).mono ?_; rintro e w1 ⟨rfl, rfl⟩
        go_wp2_with fail
        refine (product_c m.natAbs n.natAbs _ (by omega) (by omega)).mono ?_; rintro e w2 ⟨rfl, hb2⟩
        go_wp2_with fail
        refine (Below_i m _).mono ?_; rintro e w1 ⟨rfl, rfl⟩
        go_wp2_with fail
        refine (Below_i n _).mono ?_; rintro e w1 ⟨rfl, rfl⟩
        go_wp2_with fail
        refine (signed_c (m.natAbs * n.natAbs) _ _ (by omega)).mono ?_; rintro e w1 ⟨rfl, rfl⟩
        go_wp2
        go_ret
        refine ⟨ret_str (congrArg Lib.itoa ?_), hb2⟩
        exact mul01 (by omega) (by omega)
      · have dm : decide (m < 0) = false := by simp; omega
        have dn : decide (n < 0) = false := by simp; omega
        go_enter Tryz.func124, Tryz.ntmps124
        go_wp2_with fail
        refine (HB.out).mono ?_; rintro e w1 ⟨rfl, rfl⟩
        go_wp2_with fail
        refine (size_i m _).mono ?_; rintro e w1 ⟨rfl, rfl⟩
        go_wp2_with fail
        refine (size_i n _).mono ?_; rintro e w1 ⟨rfl, rfl⟩
        go_wp2_with fail
        refine (product_c m.natAbs n.natAbs _ (by omega) (by omega)).mono ?_; rintro e w2 ⟨rfl, hb2⟩
        go_wp2_with fail
        refine (Below_i m _).mono ?_; rintro e w1 ⟨rfl, rfl⟩
        go_wp2_with fail
        refine (Below_i n _).mono ?_; rintro e w1 ⟨rfl, rfl⟩
        go_wp2_with fail
        refine (signed_c (m.natAbs * n.natAbs) _ _ (by omega)).mono ?_; rintro e w1 ⟨rfl, rfl⟩
        go_wp2
        go_ret
        refine ⟨ret_str (congrArg Lib.itoa ?_), hb2⟩
        exact mul00 (by omega) (by omega)

set_option maxRecDepth 100000 in
set_option maxHeartbeats 2000000 in
theorem Order_c (m n : Int) (w : World) (hm : lng m ≤ 10000) (hn : lng n ≤ 10000) : Calls Tryz.prog 195 #[.string ⟨(Lib.itoa m).toArray⟩, .string ⟨(Lib.itoa n).toArray⟩] w (Ret w (.int .i64 (cmp m n))) := by
  by_cases h0 : m = n
  · subst h0
    have hM := Minus_c m m
    rw [show m - m = 0 by omega, itoa_zero] at hM
    have HM := Lib.hid hM
    rw [cmp_eq]
    clear hM
    go_enter Tryz.func195, Tryz.ntmps195
    go_wp2_with fail
    refine (HM.out _ hm hn).mono ?_; rintro e w2 ⟨rfl, hb2⟩
    go_wp2
    go_ret
    exact ⟨rfl, hb2⟩
  · have hne : ¬ Lib.itoa (m - n) = [48] := fun e => h0 (by have := itoa_eq_zero.1 e; omega)
    have hne2 : (Lib.itoa (m - n) == [48]) = false := by simpa using hne
    by_cases hlt : m < n
    · have hd : m - n < 0 := by omega
      rw [cmp_lt hlt]
      go_enter Tryz.func195, Tryz.ntmps195
      go_wp2_with fail
      refine (Minus_c m n _ hm hn).mono ?_; rintro e w2 ⟨rfl, hb2⟩
      go_wp2_with fail
      refine (Below_i (m - n) _).mono ?_; rintro e w1 ⟨rfl, rfl⟩
      go_wp2
      go_ret
      exact ⟨rfl, hb2⟩
    · have hd : ¬ m - n < 0 := by omega
      rw [cmp_gt (show n < m by omega)]
      go_enter Tryz.func195, Tryz.ntmps195
      go_wp2_with fail
      refine (Minus_c m n _ hm hn).mono ?_; rintro e w2 ⟨rfl, hb2⟩
      go_wp2_with fail
      refine (Below_i (m - n) _).mono ?_; rintro e w1 ⟨rfl, rfl⟩
      go_wp2
      go_ret
      exact ⟨rfl, hb2⟩






end Go.Proofs.Wk
/- THE REFERENCE's WHOLE NUMBERS: quotients, remainders, the greatest common divisor. -/
namespace Go.Proofs.Wk
open Go.RowKit Mt

theorem bne_ne' {x : Int} (h : x ≠ 0) : (x != 0) = true := by rw [bne_iff_ne]; exact h

set_option maxRecDepth 100000 in
set_option maxHeartbeats 2000000 in
theorem Parted_brief (m n : Int) (w : World) (hm : lng m ≤ 18) (hn : lng n ≤ 18) (h0 : n ≠ 0) :
    Calls Tryz.prog 122 #[.string ⟨(Lib.itoa m).toArray⟩, .string ⟨(Lib.itoa n).toArray⟩] w (Ret w (.tuple #[.string ⟨(Lib.itoa (m.fdiv n)).toArray⟩, .string ⟨(Lib.itoa (m.fmod n)).toArray⟩])) := by
  have HB := Lib.hid (brief_yes m n w hm hn)
  have hB0 := Below.refl w.heap.size w
  have m18 := (lng18 m).1 hm
  have n18 := (lng18 n).1 hn
  have ex := exact_quo (m := m) (n := n) h0 rfl
  have dl := fdiv_le (m := m) h0
  have rl := fmod_le (m := m) h0
  have tl := tmod_lt (m := m) h0
  have m0 : -1000000000000000000 < m := by omega
  have m1 : m < 1000000000000000000 := by omega
  have n0 : -1000000000000000000 < n := by omega
  have n1 : n < 1000000000000000000 := by omega
  have hca := @fmod_add m n h0
  have hcb := @fmod_same m n h0
  obtain ⟨q, hq⟩ : ∃ q, m.fdiv n = q := ⟨_, rfl⟩
  obtain ⟨r, hr⟩ : ∃ r, m.fmod n = r := ⟨_, rfl⟩
  obtain ⟨t, ht⟩ : ∃ t, m.tmod n = t := ⟨_, rfl⟩
  rw [hq, hr] at ex
  rw [hq] at dl ⊢
  rw [hr] at rl hca hcb ⊢
  rw [ht] at tl hca hcb
  have HT := Lib.hid ht
  have q0 : -1000000000000000000 < q := by omega
  have q1 : q < 1000000000000000000 := by omega
  have r0 : -1000000000000000000 < r := by omega
  have r1 : r < 1000000000000000000 := by omega
  have t0 : -1000000000000000000 < t := by omega
  have t1 : t < 1000000000000000000 := by omega
  have OQ := Lib.hid (fun W => Of_c q W (by omega) (by omega))
  have OR := Lib.hid (fun W => Of_c r W (by omega) (by omega))
  by_cases hc : t ≠ 0 ∧ ((t < 0) ≠ (n < 0))
  · have hrt := hca hc
    obtain ⟨hc1, hc2⟩ := hc
    subst hrt
    have hcc : (t < 0 ∧ 0 ≤ n) ∨ (0 ≤ t ∧ n < 0) := by
      by_cases h1 : t < 0 <;> by_cases h2 : n < 0
      · exact absurd (propext ⟨fun _ => h2, fun _ => h1⟩) hc2
      · exact .inl ⟨h1, by omega⟩
      · exact .inr ⟨by omega, h2⟩
      · exact absurd (propext ⟨fun h => absurd h h1, fun h => absurd h h2⟩) hc2
    have htb : (t != 0) = true := bne_ne' hc1
    have hht := HT.out
    clear hq hr ht hca hcb hc2 m18 n18 hm hn dl rl tl HT
    rcases hcc with ⟨c1, c2⟩ | ⟨c1, c2⟩
    · have d1 : decide (t < 0) = true := decide_eq_true c1
      have d2 : decide (n < 0) = false := decide_eq_false (by omega)
      go_enter Tryz.func122, Tryz.ntmps122
      go_wp2_with fail
      refine (HB.out).mono ?_; rintro e w' ⟨rfl, rfl⟩
      go_wp2_with fail
      refine (OQ.out _).mono ?_; rintro e w1 ⟨rfl, hb1⟩
      have hB1 := hB0.trans (hb1.mono hB0.size); clear hb1
      go_wp2_with fail
      refine (OR.out _).mono ?_; rintro e w2 ⟨rfl, hb2⟩
      have hB2 := hB1.trans (hb2.mono hB1.size); clear hb2
      go_wp2
      go_ret2
      exact ⟨rfl, hB2⟩
    · have d1 : decide (t < 0) = false := decide_eq_false (by omega)
      have d2 : decide (n < 0) = true := decide_eq_true c2
      go_enter Tryz.func122, Tryz.ntmps122
      go_wp2_with fail
      refine (HB.out).mono ?_; rintro e w' ⟨rfl, rfl⟩
      go_wp2_with fail
      refine (OQ.out _).mono ?_; rintro e w1 ⟨rfl, hb1⟩
      have hB1 := hB0.trans (hb1.mono hB0.size); clear hb1
      go_wp2_with fail
      refine (OR.out _).mono ?_; rintro e w2 ⟨rfl, hb2⟩
      have hB2 := hB1.trans (hb2.mono hB1.size); clear hb2
      go_wp2
      go_ret2
      exact ⟨rfl, hB2⟩
  · have hrt := hcb hc
    subst hrt
    have hcc : r = 0 ∨ (r ≠ 0 ∧ r < 0 ∧ n < 0) ∨ (r ≠ 0 ∧ 0 ≤ r ∧ 0 ≤ n) := by
      by_cases h3 : r = 0
      · exact .inl h3
      · by_cases h1 : r < 0 <;> by_cases h2 : n < 0
        · exact .inr (.inl ⟨h3, h1, h2⟩)
        · exact absurd ⟨h3, by simp [h1, h2]⟩ hc
        · exact absurd ⟨h3, by simp [h1, h2]⟩ hc
        · exact .inr (.inr ⟨h3, by omega, by omega⟩)
    have hht := HT.out
    clear hq hr ht hca hcb hc m18 n18 hm hn dl rl tl HT
    rcases hcc with rfl | ⟨c0, c1, c2⟩ | ⟨c0, c1, c2⟩
    · rw [Int.sub_zero] at ex
      go_enter Tryz.func122, Tryz.ntmps122
      go_wp2_with fail
      refine (HB.out).mono ?_; rintro e w' ⟨rfl, rfl⟩
      go_wp2_with fail
      refine (OQ.out _).mono ?_; rintro e w1 ⟨rfl, hb1⟩
      have hB1 := hB0.trans (hb1.mono hB0.size); clear hb1
      go_wp2_with fail
      refine (OR.out _).mono ?_; rintro e w2 ⟨rfl, hb2⟩
      have hB2 := hB1.trans (hb2.mono hB1.size); clear hb2
      go_wp2
      go_ret2
      exact ⟨rfl, hB2⟩
    · have htb : (r != 0) = true := bne_ne' c0
      have d1 : decide (r < 0) = true := decide_eq_true c1
      have d2 : decide (n < 0) = true := decide_eq_true c2
      go_enter Tryz.func122, Tryz.ntmps122
      go_wp2_with fail
      refine (HB.out).mono ?_; rintro e w' ⟨rfl, rfl⟩
      go_wp2_with fail
      refine (OQ.out _).mono ?_; rintro e w1 ⟨rfl, hb1⟩
      have hB1 := hB0.trans (hb1.mono hB0.size); clear hb1
      go_wp2_with fail
      refine (OR.out _).mono ?_; rintro e w2 ⟨rfl, hb2⟩
      have hB2 := hB1.trans (hb2.mono hB1.size); clear hb2
      go_wp2
      go_ret2
      exact ⟨rfl, hB2⟩
    · have htb : (r != 0) = true := bne_ne' c0
      have d1 : decide (r < 0) = false := decide_eq_false (by omega)
      have d2 : decide (n < 0) = false := decide_eq_false (by omega)
      go_enter Tryz.func122, Tryz.ntmps122
      go_wp2_with fail
      refine (HB.out).mono ?_; rintro e w' ⟨rfl, rfl⟩
      go_wp2_with fail
      refine (OQ.out _).mono ?_; rintro e w1 ⟨rfl, hb1⟩
      have hB1 := hB0.trans (hb1.mono hB0.size); clear hb1
      go_wp2_with fail
      refine (OR.out _).mono ?_; rintro e w2 ⟨rfl, hb2⟩
      have hB2 := hB1.trans (hb2.mono hB1.size); clear hb2
      go_wp2
      go_ret2
      exact ⟨rfl, hB2⟩

set_option maxRecDepth 100000 in
set_option maxHeartbeats 4000000 in
theorem Parted_long (m n : Int) (w : World) (hm : lng m ≤ 4000) (hn : lng n ≤ 4000) (h0 : n ≠ 0) (hb : ¬ (lng m ≤ 18 ∧ lng n ≤ 18)) :
    Calls Tryz.prog 122 #[.string ⟨(Lib.itoa m).toArray⟩, .string ⟨(Lib.itoa n).toArray⟩] w (Ret w (.tuple #[.string ⟨(Lib.itoa (m.fdiv n)).toArray⟩, .string ⟨(Lib.itoa (m.fmod n)).toArray⟩])) := by
  have HN := Lib.hid (brief_no m n w hb)
  have hB0 := Below.refl w.heap.size w
  have HSM := Lib.hid (fun W => size_i m W)
  have HSN := Lib.hid (fun W => size_i n W)
  have HBM := Lib.hid (fun W => Below_i m W)
  have HBN := Lib.hid (fun W => Below_i n W)
  have lq := Nat.le_trans (lng_mono (fdiv_le (m := m) h0)) hm
  have lr := Nat.le_trans (lng_mono (Nat.le_of_lt (fmod_le (m := m) h0))) hn
  have lqn := lng_mul (m.fdiv n) n lq hn
  have HT := Lib.hid (fun W => Times_c (m.fdiv n) n W (by omega) (by omega))
  have hmm := fun W => Minus_c m (m.fdiv n * n) W (by omega) (by omega)
  rw [sub_mul_fdiv] at hmm
  have HM := Lib.hid hmm
  have HD := Lib.hid (fun W => rdivided_c m.natAbs n.natAbs W (by omega) (by unfold lng at hm; omega) (by unfold lng at hn; omega))
  have em := sg_int m
  have en := sg_int n
  obtain ⟨sx, hsx⟩ : ∃ s, decide (m < 0) = s := ⟨_, rfl⟩
  obtain ⟨sy, hsy⟩ : ∃ s, decide (n < 0) = s := ⟨_, rfl⟩
  obtain ⟨X, hX⟩ : ∃ X, m.natAbs = X := ⟨_, rfl⟩
  obtain ⟨Y, hY⟩ : ∃ Y, n.natAbs = Y := ⟨_, rfl⟩
  rw [hsx] at HBM em
  rw [hsy] at HBN en
  rw [hX] at HSM HD em
  rw [hY] at HSN HD en
  have hY0 : Y ≠ 0 := by omega
  have fs : X % Y = 0 ∨ sx = sy → m.fdiv n = sg (sx != sy) (X / Y) := fun h => by rw [← em, ← en]; exact (fl_same hY0 h).1
  have fo : X % Y ≠ 0 → sx ≠ sy → m.fdiv n = sg true (X / Y) - 1 := fun h h2 => by
    rw [← em, ← en, (fl_other hY0 h h2).1]; simp [sg]; omega
  have dl : (Lib.decDigits (X / Y)).length ≤ 30000 := by
    have h1 : X / Y ≤ X := Nat.div_le_self _ _
    have h2 := dlen_mono h1
    unfold lng at hm
    rw [hX] at hm; omega
  obtain ⟨q, hq⟩ : ∃ q, m.fdiv n = q := ⟨_, rfl⟩
  obtain ⟨r, hr⟩ : ∃ r, m.fmod n = r := ⟨_, rfl⟩
  rw [hq] at fs fo HT HM lq ⊢
  rw [hr] at HM ⊢
  have hs := fun s W => signed_c (X / Y) s W dl
  have hclr : True := trivial
  by_cases hcase : X % Y = 0 ∨ sx = sy
  · have hqe := fs hcase
    have HS := Lib.hid (fun W => show Calls Tryz.prog 139 #[.string ⟨(Lib.decDigits (X / Y)).toArray⟩, .bool (sx != sy)] W (Pur W (.string ⟨(Lib.itoa q).toArray⟩)) from by rw [hqe]; exact hs _ W)
    have hpick : X % Y = 0 ∨ (X % Y ≠ 0 ∧ sx = sy) := by
      rcases hcase with h | h
      · exact .inl h
      · by_cases h0 : X % Y = 0
        · exact .inl h0
        · exact .inr ⟨h0, h⟩
    clear fs fo hs em en hsx hsy hX hY hq hr dl lr lqn hm hn h0 hb hmm hqe hcase hclr
    rcases hpick with hz | ⟨hz, rfl⟩
    · rw [hz, dec_zero] at HD
      clear hz
      cases sx <;> cases sy
      all_goals
        go_enter Tryz.func122, Tryz.ntmps122
        go_wp2_with fail
        refine (HN.out).mono ?_; rintro e w' ⟨rfl, rfl⟩
        go_wp2_with fail
        refine (HSM.out _).mono ?_; rintro e w' ⟨rfl, rfl⟩
        go_wp2_with fail
        refine (HSN.out _).mono ?_; rintro e w' ⟨rfl, rfl⟩
        go_wp2_with fail
        refine (HD.out _).mono ?_; rintro e w1 ⟨rfl, hb1⟩
        have hB1 := hB0.trans (hb1.mono hB0.size); clear hb1
        go_wp2_with fail
        refine (HBM.out _).mono ?_; rintro e w' ⟨rfl, rfl⟩
        go_wp2_with fail
        refine (HBN.out _).mono ?_; rintro e w' ⟨rfl, rfl⟩
        go_wp2_with fail
        refine (HS.out _).mono ?_; rintro e w' ⟨rfl, rfl⟩
        go_wp2_with fail
        refine (HT.out _).mono ?_; rintro e w2 ⟨rfl, hb2⟩
        have hB2 := hB1.trans (hb2.mono hB1.size); clear hb2
        go_wp2_with fail
        refine (HM.out _).mono ?_; rintro e w3 ⟨rfl, hb3⟩
        have hB3 := hB2.trans (hb3.mono hB2.size); clear hb3
        go_wp2
        go_ret2
        exact ⟨rfl, hB3⟩
    · have hd : (Lib.decDigits (X % Y) == [48]) = false := by rw [beq_eq_false_iff_ne]; exact fun e => hz (dec_eq_zero e)
      clear hz
      generalize Lib.decDigits (X % Y) = tr at *
      cases sx
      all_goals
        go_enter Tryz.func122, Tryz.ntmps122
        go_wp2_with fail
        refine (HN.out).mono ?_; rintro e w' ⟨rfl, rfl⟩
        go_wp2_with fail
        refine (HSM.out _).mono ?_; rintro e w' ⟨rfl, rfl⟩
        go_wp2_with fail
        refine (HSN.out _).mono ?_; rintro e w' ⟨rfl, rfl⟩
        go_wp2_with fail
        refine (HD.out _).mono ?_; rintro e w1 ⟨rfl, hb1⟩
        have hB1 := hB0.trans (hb1.mono hB0.size); clear hb1
        go_wp2_with fail
        refine (HBM.out _).mono ?_; rintro e w' ⟨rfl, rfl⟩
        go_wp2_with fail
        refine (HBN.out _).mono ?_; rintro e w' ⟨rfl, rfl⟩
        go_wp2_with fail
        refine (HS.out _).mono ?_; rintro e w' ⟨rfl, rfl⟩
        go_wp2_with fail
        refine (HBM.out _).mono ?_; rintro e w' ⟨rfl, rfl⟩
        go_wp2_with fail
        refine (HBN.out _).mono ?_; rintro e w' ⟨rfl, rfl⟩
        go_wp2_with fail
        refine (HT.out _).mono ?_; rintro e w2 ⟨rfl, hb2⟩
        have hB2 := hB1.trans (hb2.mono hB1.size); clear hb2
        go_wp2_with fail
        refine (HM.out _).mono ?_; rintro e w3 ⟨rfl, hb3⟩
        have hB3 := hB2.trans (hb3.mono hB2.size); clear hb3
        go_wp2
        go_ret2
        exact ⟨rfl, hB3⟩
  · have hz : X % Y ≠ 0 := fun h => hcase (.inl h)
    have hsne : sx ≠ sy := fun h => hcase (.inr h)
    have hqe := fo hz hsne
    have hxy : (sx != sy) = true := by rw [bne_iff_ne]; exact hsne
    have HS := Lib.hid (fun W => show Calls Tryz.prog 139 #[.string ⟨(Lib.decDigits (X / Y)).toArray⟩, .bool true] W (Pur W (.string ⟨(Lib.itoa (sg true (X / Y))).toArray⟩)) from hs true W)
    have lq1 : lng (sg true (X / Y)) ≤ 4000 := by
      refine Nat.le_trans (lng_mono (n := m) ?_) hm
      rw [sg_abs, hX]; exact Nat.div_le_self _ _
    have h1 := fun W => Minus_c (sg true (X / Y)) 1 W (by omega) (by have := (lng_le 1 (k := 1) (by omega)).2 (by decide); omega)
    rw [← hqe, itoa_one] at h1
    have H1 := Lib.hid h1
    have hd : (Lib.decDigits (X % Y) == [48]) = false := by rw [beq_eq_false_iff_ne]; exact fun e => hz (dec_eq_zero e)
    have hxy2 : (!sx == sy) = true := by revert hsne; cases sx <;> cases sy <;> simp
    clear fs fo hs em en hsx hsy hX hY hq hr dl lr lqn hm hn h0 hb hmm hqe hcase hclr h1 lq1 hz hsne
    generalize Lib.decDigits (X % Y) = tr at *
    generalize Lib.itoa (sg true (X / Y)) = tq1 at *
    go_enter Tryz.func122, Tryz.ntmps122
    go_wp2_with fail
    refine (HN.out).mono ?_; rintro e w' ⟨rfl, rfl⟩
    go_wp2_with fail
    refine (HSM.out _).mono ?_; rintro e w' ⟨rfl, rfl⟩
    go_wp2_with fail
    refine (HSN.out _).mono ?_; rintro e w' ⟨rfl, rfl⟩
    go_wp2_with fail
    refine (HD.out _).mono ?_; rintro e w1 ⟨rfl, hb1⟩
    have hB1 := hB0.trans (hb1.mono hB0.size); clear hb1
    go_wp2_with fail
    refine (HBM.out _).mono ?_; rintro e w' ⟨rfl, rfl⟩
    go_wp2_with fail
    refine (HBN.out _).mono ?_; rintro e w' ⟨rfl, rfl⟩
    go_wp2_with fail
    refine (HS.out _).mono ?_; rintro e w' ⟨rfl, rfl⟩
    go_wp2_with fail
    refine (HBM.out _).mono ?_; rintro e w' ⟨rfl, rfl⟩
    go_wp2_with fail
    refine (HBN.out _).mono ?_; rintro e w' ⟨rfl, rfl⟩
    go_wp2_with fail
    refine (H1.out _).mono ?_; rintro e w2 ⟨rfl, hb2⟩
    have hB2 := hB1.trans (hb2.mono hB1.size); clear hb2
    go_wp2_with fail
    refine (HT.out _).mono ?_; rintro e w3 ⟨rfl, hb3⟩
    have hB3 := hB2.trans (hb3.mono hB2.size); clear hb3
    go_wp2_with fail
    refine (HM.out _).mono ?_; rintro e w4 ⟨rfl, hb4⟩
    have hB4 := hB3.trans (hb4.mono hB3.size); clear hb4
    go_wp2
    go_ret2
    exact ⟨rfl, hB4⟩

theorem Parted_c (m n : Int) (w : World) (hm : lng m ≤ 4000) (hn : lng n ≤ 4000) (h0 : n ≠ 0) :
    Calls Tryz.prog 122 #[.string ⟨(Lib.itoa m).toArray⟩, .string ⟨(Lib.itoa n).toArray⟩] w (Ret w (.tuple #[.string ⟨(Lib.itoa (m.fdiv n)).toArray⟩, .string ⟨(Lib.itoa (m.fmod n)).toArray⟩])) := by
  by_cases hb : lng m ≤ 18 ∧ lng n ≤ 18
  · exact Parted_brief m n w hb.1 hb.2 h0
  · exact Parted_long m n w hm hn h0 hb
end Go.Proofs.Wk
/- THE REFERENCE's WHOLE NUMBERS: the greatest common divisor; results or errors of texts. -/
namespace Go.Proofs.Wk
open Go.RowKit Mt

theorem nat_divmod (A B : Nat) (h : B ≠ 0) : (A : Int).fdiv (B : Int) = ((A / B : Nat) : Int) ∧ (A : Int).fmod (B : Int) = ((A % B : Nat) : Int) := by
  have := fl_same (sx := false) (sy := false) (X := A) (Y := B) h (.inr rfl)
  simpa [sg] using this

set_option maxRecDepth 100000 in
set_option maxHeartbeats 2000000 in
theorem Shared_c (m n : Int) (w : World) (hm : lng m ≤ 4000) (hn : lng n ≤ 4000) : Calls Tryz.prog 120 #[.string ⟨(Lib.itoa m).toArray⟩, .string ⟨(Lib.itoa n).toArray⟩] w (Ret w (.string ⟨(Lib.itoa (Int.gcd m n)).toArray⟩)) := by
  have HSM := Lib.hid (fun W => size_i m W)
  have HSN := Lib.hid (fun W => size_i n W)
  have hm' : (Lib.decDigits m.natAbs).length ≤ 30000 := by unfold lng at hm; omega
  have hn' : (Lib.decDigits n.natAbs).length ≤ 30000 := by unfold lng at hn; omega
  have HFM := Lib.hid (fun W => show Calls Tryz.prog 139 #[.string ⟨(Lib.decDigits m.natAbs).toArray⟩, .bool false] W (Pur W (.string ⟨(Lib.itoa ((m.natAbs : Nat) : Int)).toArray⟩)) from signed_c m.natAbs false W hm')
  have HFN := Lib.hid (fun W => show Calls Tryz.prog 139 #[.string ⟨(Lib.decDigits n.natAbs).toArray⟩, .bool false] W (Pur W (.string ⟨(Lib.itoa ((n.natAbs : Nat) : Int)).toArray⟩)) from signed_c n.natAbs false W hn')
  rw [gcd_int]
  have lm : lng ((m.natAbs : Nat) : Int) ≤ 4000 := Nat.le_trans (lng_mono (by simp)) hm
  have ln : lng ((n.natAbs : Nat) : Int) ≤ 4000 := Nat.le_trans (lng_mono (by simp)) hn
  obtain ⟨X, hX⟩ : ∃ X, m.natAbs = X := ⟨_, rfl⟩
  obtain ⟨Y, hY⟩ : ∃ Y, n.natAbs = Y := ⟨_, rfl⟩
  rw [hX] at HSM HFM lm ⊢
  rw [hY] at HSN HFN ln ⊢
  obtain ⟨G, hG⟩ : ∃ G, Nat.gcd X Y = G := ⟨_, rfl⟩
  rw [hG]
  have HGG := Lib.hid hG; have LM := Lib.hid lm; have LN := Lib.hid ln
  clear hG hX hY hm hn hm' hn' lm ln
  go_enter Tryz.func120, Tryz.ntmps120
  go_wp2_with fail
  ((with_reducible refine (HSM.out _).mono ?_); rintro e w' ⟨rfl, rfl⟩)
  go_wp2_with fail
  ((with_reducible refine (HFM.out _).mono ?_); rintro e w' ⟨rfl, rfl⟩)
  go_wp2_with fail
  ((with_reducible refine (HSN.out _).mono ?_); rintro e w' ⟨rfl, rfl⟩)
  go_wp2_with fail
  ((with_reducible refine (HFN.out _).mono ?_); rintro e w' ⟨rfl, rfl⟩)
  go_wp2_with fail
  go_loopg [0, 1] Y (fun k pa pb wr => ∃ A : Nat, pa = .string ⟨(Lib.itoa (A : Int)).toArray⟩ ∧ pb = .string ⟨(Lib.itoa (k : Int)).toArray⟩ ∧ Hid (Nat.gcd A k = G) ∧ Hid (lng (A : Int) ≤ 4000) ∧ Hid (lng (k : Int) ≤ 4000) ∧ Below w.heap.size w wr)
  case atStart => exact ⟨X, rfl, rfl, HGG, LM, LN, Below.refl _ _⟩
  case round =>
    clear HSM HSN HFM HFN HGG LM LN
    obtain ⟨A, rfl, rfl, hG, hA, hK, hB⟩ := hrel
    by_cases hk : gk = 0
    · subst hk
      rw [show ((0 : Nat) : Int) = 0 from rfl, itoa_zero]
      have hAG : A = G := by rw [← hG.out, Nat.gcd_zero_right]
      have HAG := Lib.hid hAG
      clear hAG
      go_wp2
      go_ret
      exact ⟨by rw [HAG.out]; rfl, hB⟩
    · have hk48 := itoa_n48 (n := (gk : Int)) (by omega)
      have HK := Lib.hid hk
      by_cases hb : lng (A : Int) ≤ 18 ∧ lng (gk : Int) ≤ 18
      · have HB := Lib.hid (fun W => brief_yes (A : Int) (gk : Int) W hb.1 hb.2)
        have a18 := (lng18 _).1 hb.1
        have k18 := (lng18 _).1 hb.2
        have hA18 : A < 1000000000000000000 := by simpa using a18
        have hk18 : gk < 1000000000000000000 := by simpa using k18
        have HA18 := Lib.hid hA18; have HK18 := Lib.hid hk18
        clear hb a18 k18 hA18 hk18 hk
        generalize Lib.itoa (A : Int) = ta at *
        generalize Lib.itoa (gk : Int) = tk at *
        go_wp2_with fail
        ((with_reducible refine (HB.out _).mono ?_); rintro e w' ⟨rfl, rfl⟩)
        go_wp2_with fail
        obtain ⟨wo, rfl⟩ : ∃ wo : World, wo = wr := ⟨_, rfl⟩
        go_loopw [5, 6] (fun p q wr => ∃ (x y : Nat), p = .int .i64 (x : Int) ∧ q = .int .i64 (y : Int) ∧ Hid (x < 1000000000000000000) ∧ Hid (y < 1000000000000000000) ∧ Hid (Nat.gcd x y = G) ∧ Below w.heap.size w wr) (fun _ q _ => (intOf q).toNat)
        case atStart => exact ⟨A, gk, rfl, rfl, HA18, HK18, hG, hB⟩
        case round =>
          clear HA18 HK18 hG hB HB
          obtain ⟨x, y, rfl, rfl, hx, hy, hG, hB⟩ := hrel
          by_cases hy0 : y = 0
          · subst hy0
            have hxG : x = G := by rw [← hG.out, Nat.gcd_zero_right]
            have HAG := Lib.hid hxG
            have HO := Lib.hid (fun W => Of_c (x : Int) W (by omega) (by have := hx.out; omega))
            clear hxG
            go_wp2_with fail
            refine (HO.out _).mono ?_; rintro e w5 ⟨rfl, hb5⟩
            have hB5 := hB.trans (hb5.mono hB.size)
            go_wp2
            go_ret
            exact ⟨by rw [HAG.out]; rfl, hB5⟩
          · have hyp : 0 < y := by omega
            have hst := gcd_step x y
            have hlt := Nat.mod_lt x hyp
            have HST := Lib.hid hst; have HLT := Lib.hid hlt
            clear hst hlt
            go_wp2_with fail
            go_quiet (fail)
            go_wp2_with fail
            go_roundw
            case rel => exact ⟨y, x % y, rfl, by go_num, hy, by have := HLT.out; have := hy.out; show _ < _; omega, by show _ = _; rw [HST.out]; exact hG.out, below_drewN hB _⟩
            case measure => have := HLT.out; simp [intOf]; omega
      · have HN := Lib.hid (fun W => brief_no (A : Int) (gk : Int) W hb)
        have HP := Lib.hid (fun W => Parted_c (A : Int) (gk : Int) W hA.out hK.out (by omega))
        rw [(nat_divmod A gk hk).2] at HP
        have hst := gcd_step A gk
        have hmod := Nat.mod_lt A (Nat.pos_of_ne_zero hk)
        have hln : lng ((A % gk : Nat) : Int) ≤ 4000 := Nat.le_trans (lng_mono (n := (gk : Int)) (by simp; omega)) hK.out
        have HST := Lib.hid hst; have HMOD := Lib.hid hmod; have HLN := Lib.hid hln
        clear hst hmod hln hb hk
        go_wp2_with fail
        ((with_reducible refine (HN.out _).mono ?_); rintro e w' ⟨rfl, rfl⟩)
        go_wp2_with fail
        refine (HP.out _).mono ?_; rintro e w5 ⟨rfl, hb5⟩
        have hB5 := hB.trans (hb5.mono hB.size)
        go_wp2_with fail
        go_roundg (A % gk)
        case measure => exact HMOD.out
        case rel => exact ⟨gk, rfl, rfl, by show _ = _; rw [HST.out]; exact hG.out, hK, HLN, hB5⟩

def fewB (a : Txt) : Bool := decide (a.length ≤ 50) || (decide (a.length ≤ 2048) && (chk a == 3))
end Go.Proofs.Wk
