/- THE LAW WholeShares: it returns true at all texts. -/
import Derived.Test.YtjljappilpkelaaDoorL1D
namespace Go.Proofs.Wk
open Go.RowKit Mt

theorem fmod_dvd {x g : Int} (h : g ∣ x) (h0 : g ≠ 0) : x.fmod g = 0 := by
  obtain ⟨k, rfl⟩ := h
  rw [Int.mul_comm]
  exact (mul_fdiv_self h0).2
theorem gcd_scaled (x y c : Int) : (Int.gcd (x * c) (y * c) : Int) = Int.gcd x y * c.natAbs := by
  rw [Int.gcd_mul_right]; rfl
theorem lng_gcd {x y : Int} {k : Nat} (hx : lng x ≤ k) (hy : lng y ≤ k) : lng (Int.gcd x y) ≤ k := by
  by_cases h : x = 0
  · subst h
    rw [Int.gcd_zero_left]
    exact lng_of_le (by simp) hy
  · refine lng_of_le (n := x) ?_ hx
    have : Int.gcd x y ≤ x.natAbs := Nat.le_of_dvd (by omega) (Int.gcd_dvd_natAbs_left x y)
    simpa using this

set_option maxRecDepth 100000 in
set_option maxHeartbeats 4000000 in
theorem shares_yes (x y z : Int) (w : World) (hg : Good w) (hx : lng x ≤ 50) (hy : lng y ≤ 50) (hz : lng z ≤ 50) (h : allShort [Lib.itoa x, Lib.itoa y, Lib.itoa z] = true) (h0 : z ≠ 0) :
    Calls Tryd.prog 4 #[.string ⟨(Lib.itoa x).toArray⟩, .string ⟨(Lib.itoa y).toArray⟩, .string ⟨(Lib.itoa z).toArray⟩] w (Ret w (.bool true)) := by
  have HG := Lib.hid hg
  have hS := fun t => short3 (Lib.itoa x) (Lib.itoa y) (Lib.itoa z) w (txt_ok (by omega)) (txt_ok (by omega)) (txt_ok (by omega)) t
  rw [h] at hS
  have HS := Lib.hid hS
  have lxz := lng_mul x z hx hz
  have lyz := lng_mul y z hy hz
  have lg := lng_gcd hx hy
  have hn48 := itoa_n48 h0
  have G1 := Lib.hid (fun W hW => gcdI x y W hW (by omega) (by omega))
  have M1 := Lib.hid (fun W hW => mulI x z W hW (by omega) (by omega) (by omega))
  have M2 := Lib.hid (fun W hW => mulI y z W hW (by omega) (by omega) (by omega))
  have g2 := fun W hW => gcdI (x * z) (y * z) W hW (by omega) (by omega)
  rw [gcd_scaled] at g2
  have lgz := lng_mul (Int.gcd x y) z lg hz
  have lgd := lng_mul (Int.gcd x y) (z.natAbs : Int) lg (k := 50) (j := 50) (lng_of_le (n := z) (by simp) hz)
  have G2 := Lib.hid g2
  by_cases hg0 : (Int.gcd x y : Int) = 0
  · have hz2 : x = 0 ∧ y = 0 := Int.gcd_eq_zero_iff.1 (by omega)
    obtain ⟨rfl, rfl⟩ := hz2
    rw [hg0] at G1 G2
    simp only [Int.zero_mul, itoa_zero] at G1 G2 M1 M2 HS ⊢
    clear h hg hS lxz lyz lg g2 lgz lgd hg0 hx hy hz h0
    generalize Lib.itoa z = tz at *
    go_enter Tryd.func4, Tryd.ntmps4
    go_wp2_with fail
    refine (HS.out _).mono ?_; rintro e w1 ⟨rfl, hb1⟩
    have hB1 := hb1
    go_wp2_with fail
    refine (G1.out _ (HG.out.later hB1)).mono ?_; rintro e w2 ⟨rfl, hb2⟩
    have hB2 := hB1.trans (hb2.mono hB1.size); clear hb2
    go_wp2_with fail
    refine (M1.out _ (HG.out.later hB2)).mono ?_; rintro e w3 ⟨rfl, hb3⟩
    have hB3 := hB2.trans (hb3.mono hB2.size); clear hb3
    go_wp2_with fail
    refine (M2.out _ (HG.out.later hB3)).mono ?_; rintro e w4 ⟨rfl, hb4⟩
    have hB4 := hB3.trans (hb4.mono hB3.size); clear hb4
    go_wp2_with fail
    refine (G2.out _ (HG.out.later hB4)).mono ?_; rintro e w5 ⟨rfl, hb5⟩
    have hB5 := hB4.trans (hb5.mono hB4.size); clear hb5
    go_wp2_with fail
    refine (awake_c _ (HG.out.later hB5)).mono ?_; rintro e w6 ⟨rfl, hb6⟩
    have hB6 := hB5.trans (hb6.mono hB5.size); clear hb6
    go_wp2
    go_ret
    exact ⟨rfl, hB6⟩
  · have r1 := fun W hW => remI x (Int.gcd x y) W hW (by omega) (by omega) hg0
    rw [fmod_dvd (Int.gcd_dvd_left ..) hg0, itoa_zero] at r1
    have r2 := fun W hW => remI y (Int.gcd x y) W hW (by omega) (by omega) hg0
    rw [fmod_dvd (Int.gcd_dvd_right ..) hg0, itoa_zero] at r2
    have r3 := fun W hW => remI (Int.gcd x y * (z.natAbs : Int)) z W hW (by omega) (by omega) h0
    rw [fmod_dvd (Int.dvd_trans (Int.dvd_natAbs.2 (Int.dvd_refl z)) (Int.dvd_mul_left _ _)) h0, itoa_zero] at r3
    have R1 := Lib.hid r1; have R2 := Lib.hid r2; have R3 := Lib.hid r3
    have M3 := Lib.hid (fun W hW => mulI (Int.gcd x y) z W hW (by omega) (by omega) (by omega))
    have S1 := Lib.hid (fun W => signI ((Int.gcd x y : Int) * z) W (by omega))
    have N1 := Lib.hid (fun W => negI ((Int.gcd x y : Int) * z) W (by omega))
    have hn2 := itoa_n48 hg0
    have hgp : 0 < (Int.gcd x y : Int) := by omega
    by_cases hneg : z < 0
    · have e1 : (Int.gcd x y : Int) * (z.natAbs : Int) = -((Int.gcd x y : Int) * z) := by
        rw [show (z.natAbs : Int) = -z by omega, Int.mul_neg]
      have e2 : sgn ((Int.gcd x y : Int) * z) = -1 := sgn_neg (Int.mul_neg_of_pos_of_neg hgp hneg)
      rw [e1] at G2 R3
      rw [e2] at S1
      clear h hg hS lxz lyz lg g2 lgz lgd hg0 hx hy hz h0 r1 r2 r3 hgp hneg e1 e2
      generalize Lib.itoa (-((Int.gcd x y : Int) * z)) = td at *
      generalize Lib.itoa ((Int.gcd x y : Int) * z) = tgz at *
      generalize Lib.itoa (Int.gcd x y : Int) = tg at *
      generalize Lib.itoa (x * z) = txz at *
      generalize Lib.itoa (y * z) = tyz at *
      generalize Lib.itoa x = tx at *
      generalize Lib.itoa y = ty at *
      generalize Lib.itoa z = tz at *
      go_enter Tryd.func4, Tryd.ntmps4
      go_wp2_with fail
      refine (HS.out _).mono ?_; rintro e w1 ⟨rfl, hb1⟩
      have hB1 := hb1
      go_wp2_with fail
      refine (G1.out _ (HG.out.later hB1)).mono ?_; rintro e w2 ⟨rfl, hb2⟩
      have hB2 := hB1.trans (hb2.mono hB1.size); clear hb2
      go_wp2_with fail
      refine (M1.out _ (HG.out.later hB2)).mono ?_; rintro e w3 ⟨rfl, hb3⟩
      have hB3 := hB2.trans (hb3.mono hB2.size); clear hb3
      go_wp2_with fail
      refine (M2.out _ (HG.out.later hB3)).mono ?_; rintro e w4 ⟨rfl, hb4⟩
      have hB4 := hB3.trans (hb4.mono hB3.size); clear hb4
      go_wp2_with fail
      refine (G2.out _ (HG.out.later hB4)).mono ?_; rintro e w5 ⟨rfl, hb5⟩
      have hB5 := hB4.trans (hb5.mono hB4.size); clear hb5
      go_wp2_with fail
      refine (R1.out _ (HG.out.later hB5)).mono ?_; rintro e w6 ⟨rfl, hb6⟩
      have hB6 := hB5.trans (hb6.mono hB5.size); clear hb6
      go_wp2_with fail
      refine (R2.out _ (HG.out.later hB6)).mono ?_; rintro e w7 ⟨rfl, hb7⟩
      have hB7 := hB6.trans (hb7.mono hB6.size); clear hb7
      go_wp2_with fail
      refine (M3.out _ (HG.out.later hB7)).mono ?_; rintro e w8 ⟨rfl, hb8⟩
      have hB8 := hB7.trans (hb8.mono hB7.size); clear hb8
      go_wp2_with fail
      refine (S1.out _).mono ?_; rintro e w9 ⟨rfl, hb9⟩
      have hB9 := hB8.trans (hb9.mono hB8.size); clear hb9
      go_wp2_with fail
      refine (N1.out _).mono ?_; rintro e w10 ⟨rfl, hb10⟩
      have hB10 := hB9.trans (hb10.mono hB9.size); clear hb10
      go_wp2_with fail
      refine (R3.out _ (HG.out.later hB10)).mono ?_; rintro e w11 ⟨rfl, hb11⟩
      have hB11 := hB10.trans (hb11.mono hB10.size); clear hb11
      go_wp2_with fail
      refine (awake_c _ (HG.out.later hB11)).mono ?_; rintro e w12 ⟨rfl, hb12⟩
      have hB12 := hB11.trans (hb12.mono hB11.size); clear hb12
      go_wp2
      go_ret
      exact ⟨rfl, hB12⟩
    · have e1 : (Int.gcd x y : Int) * (z.natAbs : Int) = (Int.gcd x y : Int) * z := by
        rw [show (z.natAbs : Int) = z by omega]
      have e2 : sgn ((Int.gcd x y : Int) * z) = 1 := sgn_pos (Int.mul_pos hgp (by omega))
      rw [e1] at G2 R3
      rw [e2] at S1
      clear h hg hS lxz lyz lg g2 lgz lgd hg0 hx hy hz h0 r1 r2 r3 hgp hneg e1 e2 N1
      generalize Lib.itoa ((Int.gcd x y : Int) * z) = tgz at *
      generalize Lib.itoa (Int.gcd x y : Int) = tg at *
      generalize Lib.itoa (x * z) = txz at *
      generalize Lib.itoa (y * z) = tyz at *
      generalize Lib.itoa x = tx at *
      generalize Lib.itoa y = ty at *
      generalize Lib.itoa z = tz at *
      go_enter Tryd.func4, Tryd.ntmps4
      go_wp2_with fail
      refine (HS.out _).mono ?_; rintro e w1 ⟨rfl, hb1⟩
      have hB1 := hb1
      go_wp2_with fail
      refine (G1.out _ (HG.out.later hB1)).mono ?_; rintro e w2 ⟨rfl, hb2⟩
      have hB2 := hB1.trans (hb2.mono hB1.size); clear hb2
      go_wp2_with fail
      refine (M1.out _ (HG.out.later hB2)).mono ?_; rintro e w3 ⟨rfl, hb3⟩
      have hB3 := hB2.trans (hb3.mono hB2.size); clear hb3
      go_wp2_with fail
      refine (M2.out _ (HG.out.later hB3)).mono ?_; rintro e w4 ⟨rfl, hb4⟩
      have hB4 := hB3.trans (hb4.mono hB3.size); clear hb4
      go_wp2_with fail
      refine (G2.out _ (HG.out.later hB4)).mono ?_; rintro e w5 ⟨rfl, hb5⟩
      have hB5 := hB4.trans (hb5.mono hB4.size); clear hb5
      go_wp2_with fail
      refine (R1.out _ (HG.out.later hB5)).mono ?_; rintro e w6 ⟨rfl, hb6⟩
      have hB6 := hB5.trans (hb6.mono hB5.size); clear hb6
      go_wp2_with fail
      refine (R2.out _ (HG.out.later hB6)).mono ?_; rintro e w7 ⟨rfl, hb7⟩
      have hB7 := hB6.trans (hb7.mono hB6.size); clear hb7
      go_wp2_with fail
      refine (M3.out _ (HG.out.later hB7)).mono ?_; rintro e w8 ⟨rfl, hb8⟩
      have hB8 := hB7.trans (hb8.mono hB7.size); clear hb8
      go_wp2_with fail
      refine (S1.out _).mono ?_; rintro e w9 ⟨rfl, hb9⟩
      have hB9 := hB8.trans (hb9.mono hB8.size); clear hb9
      go_wp2_with fail
      refine (R3.out _ (HG.out.later hB9)).mono ?_; rintro e w10 ⟨rfl, hb10⟩
      have hB10 := hB9.trans (hb10.mono hB9.size); clear hb10
      go_wp2_with fail
      refine (awake_c _ (HG.out.later hB10)).mono ?_; rintro e w11 ⟨rfl, hb11⟩
      have hB11 := hB10.trans (hb11.mono hB10.size); clear hb11
      go_wp2
      go_ret
      exact ⟨rfl, hB11⟩

set_option maxRecDepth 100000 in
set_option maxHeartbeats 1000000 in
theorem shares_c (a b c : Txt) (w : World) (hg : Good w) (ha : a.length ≤ 140737488355328) (hb : b.length ≤ 140737488355328) (hc : c.length ≤ 140737488355328) :
    Calls Tryd.prog 4 #[.string ⟨a.toArray⟩, .string ⟨b.toArray⟩, .string ⟨c.toArray⟩] w (Ret w (.bool true)) := by
  have HG := Lib.hid hg
  by_cases h : allShort [a, b, c] = true
  · obtain ⟨h1, h2, h3⟩ := (all3 a b c).1 h
    obtain ⟨x, rfl, hx⟩ := short_int h1
    obtain ⟨y, rfl, hy⟩ := short_int h2
    obtain ⟨z, rfl, hz⟩ := short_int h3
    by_cases h0 : z = 0
    · subst h0
      have hS := fun t => short3 (Lib.itoa x) (Lib.itoa y) (Lib.itoa 0) w ha hb hc t
      rw [h, itoa_zero] at hS
      rw [itoa_zero]
      have HS := Lib.hid hS
      clear h hg hS hx hy hz h1 h2 h3 ha hb hc
      go_enter Tryd.func4, Tryd.ntmps4
      go_wp2_with fail
      refine (HS.out _).mono ?_; rintro e w1 ⟨rfl, hb1⟩
      have hB1 := hb1
      go_wp2_with fail
      refine (awake_c _ (HG.out.later hB1)).mono ?_; rintro e w2 ⟨rfl, hb2⟩
      have hB2 := hB1.trans (hb2.mono hB1.size); clear hb2
      go_wp2
      go_ret
      exact ⟨rfl, hB2⟩
    · exact shares_yes x y z w hg hx hy hz h h0
  · have hS := fun t => short3 a b c w ha hb hc t
    rw [show allShort [a, b, c] = false by simpa using h] at hS
    have HS := Lib.hid hS
    clear h hg hS
    go_enter Tryd.func4, Tryd.ntmps4
    go_wp2_with fail
    refine (HS.out _).mono ?_; rintro e w1 ⟨rfl, hb1⟩
    have hB1 := hb1
    go_wp2_with fail
    refine (awake_c _ (HG.out.later hB1)).mono ?_; rintro e w2 ⟨rfl, hb2⟩
    have hB2 := hB1.trans (hb2.mono hB1.size); clear hb2
    go_wp2
    go_ret
    exact ⟨rfl, hB2⟩
end Go.Proofs.Wk
