/- THE REFERENCE's WHOLE NUMBERS: quotients, remainders, the greatest common divisor. -/
import Derived.Test.YtjljappilpkelaaGreatDoorRefF
import Derived.Test.YtjljappilpkelaaGreatDoorMathZ
namespace Go.Proofs.Wk
open Go.RowKit Mt

theorem bne_ne' {x : Int} (h : x ≠ 0) : (x != 0) = true := by rw [bne_iff_ne]; exact h

set_option maxRecDepth 100000 in
set_option maxHeartbeats 2000000 in
theorem Parted_brief (m n : Int) (w : World) (hm : lng m ≤ 18) (hn : lng n ≤ 18) (h0 : n ≠ 0) :
    Calls Tryz.prog 49 #[.string ⟨(Lib.itoa m).toArray⟩, .string ⟨(Lib.itoa n).toArray⟩] w (Ret w (.tuple #[.string ⟨(Lib.itoa (m.fdiv n)).toArray⟩, .string ⟨(Lib.itoa (m.fmod n)).toArray⟩])) := by
  have HB := Lib.hid (brief_yes m n w hm hn)
  have hB0 := Below.refl w.heap.size w
  have m18 := (lng18 m).1 hm
  have n18 := (lng18 n).1 hn
  have ex := exact_quo (m := m) (n := n) h0 rfl
  have dl := fdiv_le (m := m) h0
  have rl := fmod_le (m := m) h0
  have tl := tmod_lt (m := m) h0
  have m0 : -1000000000000000000 < m := by omega
  have m1 : m < 1000000000000000000 := by omega
  have n0 : -1000000000000000000 < n := by omega
  have n1 : n < 1000000000000000000 := by omega
  have hca := @fmod_add m n h0
  have hcb := @fmod_same m n h0
  obtain ⟨q, hq⟩ : ∃ q, m.fdiv n = q := ⟨_, rfl⟩
  obtain ⟨r, hr⟩ : ∃ r, m.fmod n = r := ⟨_, rfl⟩
  obtain ⟨t, ht⟩ : ∃ t, m.tmod n = t := ⟨_, rfl⟩
  rw [hq, hr] at ex
  rw [hq] at dl ⊢
  rw [hr] at rl hca hcb ⊢
  rw [ht] at tl hca hcb
  have HT := Lib.hid ht
  have q0 : -1000000000000000000 < q := by omega
  have q1 : q < 1000000000000000000 := by omega
  have r0 : -1000000000000000000 < r := by omega
  have r1 : r < 1000000000000000000 := by omega
  have t0 : -1000000000000000000 < t := by omega
  have t1 : t < 1000000000000000000 := by omega
  have OQ := Lib.hid (fun W => Of_c q W (by omega) (by omega))
  have OR := Lib.hid (fun W => Of_c r W (by omega) (by omega))
  by_cases hc : t ≠ 0 ∧ ((t < 0) ≠ (n < 0))
  · have hrt := hca hc
    obtain ⟨hc1, hc2⟩ := hc
    subst hrt
    have hcc : (t < 0 ∧ 0 ≤ n) ∨ (0 ≤ t ∧ n < 0) := by
      by_cases h1 : t < 0 <;> by_cases h2 : n < 0
      · exact absurd (propext ⟨fun _ => h2, fun _ => h1⟩) hc2
      · exact .inl ⟨h1, by omega⟩
      · exact .inr ⟨by omega, h2⟩
      · exact absurd (propext ⟨fun h => absurd h h1, fun h => absurd h h2⟩) hc2
    have htb : (t != 0) = true := bne_ne' hc1
    have hht := HT.out
    clear hq hr ht hca hcb hc2 m18 n18 hm hn dl rl tl HT
    rcases hcc with ⟨c1, c2⟩ | ⟨c1, c2⟩
    · have d1 : decide (t < 0) = true := decide_eq_true c1
      have d2 : decide (n < 0) = false := decide_eq_false (by omega)
      go_enter Tryz.func49, Tryz.ntmps49
      go_wp2_with fail
      refine (HB.out).mono ?_; rintro e w' ⟨rfl, rfl⟩
      go_wp2_with fail
      refine (OQ.out _).mono ?_; rintro e w1 ⟨rfl, hb1⟩
      have hB1 := hB0.trans (hb1.mono hB0.size); clear hb1
      go_wp2_with fail
      refine (OR.out _).mono ?_; rintro e w2 ⟨rfl, hb2⟩
      have hB2 := hB1.trans (hb2.mono hB1.size); clear hb2
      go_wp2
      go_ret2
      exact ⟨rfl, hB2⟩
    · have d1 : decide (t < 0) = false := decide_eq_false (by omega)
      have d2 : decide (n < 0) = true := decide_eq_true c2
      go_enter Tryz.func49, Tryz.ntmps49
      go_wp2_with fail
      refine (HB.out).mono ?_; rintro e w' ⟨rfl, rfl⟩
      go_wp2_with fail
      refine (OQ.out _).mono ?_; rintro e w1 ⟨rfl, hb1⟩
      have hB1 := hB0.trans (hb1.mono hB0.size); clear hb1
      go_wp2_with fail
      refine (OR.out _).mono ?_; rintro e w2 ⟨rfl, hb2⟩
      have hB2 := hB1.trans (hb2.mono hB1.size); clear hb2
      go_wp2
      go_ret2
      exact ⟨rfl, hB2⟩
  · have hrt := hcb hc
    subst hrt
    have hcc : r = 0 ∨ (r ≠ 0 ∧ r < 0 ∧ n < 0) ∨ (r ≠ 0 ∧ 0 ≤ r ∧ 0 ≤ n) := by
      by_cases h3 : r = 0
      · exact .inl h3
      · by_cases h1 : r < 0 <;> by_cases h2 : n < 0
        · exact .inr (.inl ⟨h3, h1, h2⟩)
        · exact absurd ⟨h3, by simp [h1, h2]⟩ hc
        · exact absurd ⟨h3, by simp [h1, h2]⟩ hc
        · exact .inr (.inr ⟨h3, by omega, by omega⟩)
    have hht := HT.out
    clear hq hr ht hca hcb hc m18 n18 hm hn dl rl tl HT
    rcases hcc with rfl | ⟨c0, c1, c2⟩ | ⟨c0, c1, c2⟩
    · rw [Int.sub_zero] at ex
      go_enter Tryz.func49, Tryz.ntmps49
      go_wp2_with fail
      refine (HB.out).mono ?_; rintro e w' ⟨rfl, rfl⟩
      go_wp2_with fail
      refine (OQ.out _).mono ?_; rintro e w1 ⟨rfl, hb1⟩
      have hB1 := hB0.trans (hb1.mono hB0.size); clear hb1
      go_wp2_with fail
      refine (OR.out _).mono ?_; rintro e w2 ⟨rfl, hb2⟩
      have hB2 := hB1.trans (hb2.mono hB1.size); clear hb2
      go_wp2
      go_ret2
      exact ⟨rfl, hB2⟩
    · have htb : (r != 0) = true := bne_ne' c0
      have d1 : decide (r < 0) = true := decide_eq_true c1
      have d2 : decide (n < 0) = true := decide_eq_true c2
      go_enter Tryz.func49, Tryz.ntmps49
      go_wp2_with fail
      refine (HB.out).mono ?_; rintro e w' ⟨rfl, rfl⟩
      go_wp2_with fail
      refine (OQ.out _).mono ?_; rintro e w1 ⟨rfl, hb1⟩
      have hB1 := hB0.trans (hb1.mono hB0.size); clear hb1
      go_wp2_with fail
      refine (OR.out _).mono ?_; rintro e w2 ⟨rfl, hb2⟩
      have hB2 := hB1.trans (hb2.mono hB1.size); clear hb2
      go_wp2
      go_ret2
      exact ⟨rfl, hB2⟩
    · have htb : (r != 0) = true := bne_ne' c0
      have d1 : decide (r < 0) = false := decide_eq_false (by omega)
      have d2 : decide (n < 0) = false := decide_eq_false (by omega)
      go_enter Tryz.func49, Tryz.ntmps49
      go_wp2_with fail
      refine (HB.out).mono ?_; rintro e w' ⟨rfl, rfl⟩
      go_wp2_with fail
      refine (OQ.out _).mono ?_; rintro e w1 ⟨rfl, hb1⟩
      have hB1 := hB0.trans (hb1.mono hB0.size); clear hb1
      go_wp2_with fail
      refine (OR.out _).mono ?_; rintro e w2 ⟨rfl, hb2⟩
      have hB2 := hB1.trans (hb2.mono hB1.size); clear hb2
      go_wp2
      go_ret2
      exact ⟨rfl, hB2⟩

set_option maxRecDepth 100000 in
set_option maxHeartbeats 4000000 in
theorem Parted_long (m n : Int) (w : World) (hm : lng m ≤ 4000) (hn : lng n ≤ 4000) (h0 : n ≠ 0) (hb : ¬ (lng m ≤ 18 ∧ lng n ≤ 18)) :
    Calls Tryz.prog 49 #[.string ⟨(Lib.itoa m).toArray⟩, .string ⟨(Lib.itoa n).toArray⟩] w (Ret w (.tuple #[.string ⟨(Lib.itoa (m.fdiv n)).toArray⟩, .string ⟨(Lib.itoa (m.fmod n)).toArray⟩])) := by
  have HN := Lib.hid (brief_no m n w hb)
  have hB0 := Below.refl w.heap.size w
  have HSM := Lib.hid (fun W => size_i m W)
  have HSN := Lib.hid (fun W => size_i n W)
  have HBM := Lib.hid (fun W => Below_i m W)
  have HBN := Lib.hid (fun W => Below_i n W)
  have lq := Nat.le_trans (lng_mono (fdiv_le (m := m) h0)) hm
  have lr := Nat.le_trans (lng_mono (Nat.le_of_lt (fmod_le (m := m) h0))) hn
  have lqn := lng_mul (m.fdiv n) n lq hn
  have HT := Lib.hid (fun W => Times_c (m.fdiv n) n W (by omega) (by omega))
  have hmm := fun W => Minus_c m (m.fdiv n * n) W (by omega) (by omega)
  rw [sub_mul_fdiv] at hmm
  have HM := Lib.hid hmm
  have HD := Lib.hid (fun W => rdivided_c m.natAbs n.natAbs W (by omega) (by unfold lng at hm; omega) (by unfold lng at hn; omega))
  have em := sg_int m
  have en := sg_int n
  obtain ⟨sx, hsx⟩ : ∃ s, decide (m < 0) = s := ⟨_, rfl⟩
  obtain ⟨sy, hsy⟩ : ∃ s, decide (n < 0) = s := ⟨_, rfl⟩
  obtain ⟨X, hX⟩ : ∃ X, m.natAbs = X := ⟨_, rfl⟩
  obtain ⟨Y, hY⟩ : ∃ Y, n.natAbs = Y := ⟨_, rfl⟩
  rw [hsx] at HBM em
  rw [hsy] at HBN en
  rw [hX] at HSM HD em
  rw [hY] at HSN HD en
  have hY0 : Y ≠ 0 := by omega
  have fs : X % Y = 0 ∨ sx = sy → m.fdiv n = sg (sx != sy) (X / Y) := fun h => by rw [← em, ← en]; exact (fl_same hY0 h).1
  have fo : X % Y ≠ 0 → sx ≠ sy → m.fdiv n = sg true (X / Y) - 1 := fun h h2 => by
    rw [← em, ← en, (fl_other hY0 h h2).1]; simp [sg]; omega
  have dl : (Lib.decDigits (X / Y)).length ≤ 30000 := by
    have h1 : X / Y ≤ X := Nat.div_le_self _ _
    have h2 := dlen_mono h1
    unfold lng at hm
    rw [hX] at hm; omega
  obtain ⟨q, hq⟩ : ∃ q, m.fdiv n = q := ⟨_, rfl⟩
  obtain ⟨r, hr⟩ : ∃ r, m.fmod n = r := ⟨_, rfl⟩
  rw [hq] at fs fo HT HM lq ⊢
  rw [hr] at HM ⊢
  have hs := fun s W => signed_c (X / Y) s W dl
  have hclr : True := trivial
  by_cases hcase : X % Y = 0 ∨ sx = sy
  · have hqe := fs hcase
    have HS := Lib.hid (fun W => show Calls Tryz.prog 72 #[.string ⟨(Lib.decDigits (X / Y)).toArray⟩, .bool (sx != sy)] W (Pur W (.string ⟨(Lib.itoa q).toArray⟩)) from by rw [hqe]; exact hs _ W)
    have hpick : X % Y = 0 ∨ (X % Y ≠ 0 ∧ sx = sy) := by
      rcases hcase with h | h
      · exact .inl h
      · by_cases h0 : X % Y = 0
        · exact .inl h0
        · exact .inr ⟨h0, h⟩
    clear fs fo hs em en hsx hsy hX hY hq hr dl lr lqn hm hn h0 hb hmm hqe hcase hclr
    rcases hpick with hz | ⟨hz, rfl⟩
    · rw [hz, dec_zero] at HD
      clear hz
      cases sx <;> cases sy
      all_goals
        go_enter Tryz.func49, Tryz.ntmps49
        go_wp2_with fail
        refine (HN.out).mono ?_; rintro e w' ⟨rfl, rfl⟩
        go_wp2_with fail
        refine (HSM.out _).mono ?_; rintro e w' ⟨rfl, rfl⟩
        go_wp2_with fail
        refine (HSN.out _).mono ?_; rintro e w' ⟨rfl, rfl⟩
        go_wp2_with fail
        refine (HD.out _).mono ?_; rintro e w1 ⟨rfl, hb1⟩
        have hB1 := hB0.trans (hb1.mono hB0.size); clear hb1
        go_wp2_with fail
        refine (HBM.out _).mono ?_; rintro e w' ⟨rfl, rfl⟩
        go_wp2_with fail
        refine (HBN.out _).mono ?_; rintro e w' ⟨rfl, rfl⟩
        go_wp2_with fail
        refine (HS.out _).mono ?_; rintro e w' ⟨rfl, rfl⟩
        go_wp2_with fail
        refine (HT.out _).mono ?_; rintro e w2 ⟨rfl, hb2⟩
        have hB2 := hB1.trans (hb2.mono hB1.size); clear hb2
        go_wp2_with fail
        refine (HM.out _).mono ?_; rintro e w3 ⟨rfl, hb3⟩
        have hB3 := hB2.trans (hb3.mono hB2.size); clear hb3
        go_wp2
        go_ret2
        exact ⟨rfl, hB3⟩
    · have hd : (Lib.decDigits (X % Y) == [48]) = false := by rw [beq_eq_false_iff_ne]; exact fun e => hz (dec_eq_zero e)
      clear hz
      generalize Lib.decDigits (X % Y) = tr at *
      cases sx
      all_goals
        go_enter Tryz.func49, Tryz.ntmps49
        go_wp2_with fail
        refine (HN.out).mono ?_; rintro e w' ⟨rfl, rfl⟩
        go_wp2_with fail
        refine (HSM.out _).mono ?_; rintro e w' ⟨rfl, rfl⟩
        go_wp2_with fail
        refine (HSN.out _).mono ?_; rintro e w' ⟨rfl, rfl⟩
        go_wp2_with fail
        refine (HD.out _).mono ?_; rintro e w1 ⟨rfl, hb1⟩
        have hB1 := hB0.trans (hb1.mono hB0.size); clear hb1
        go_wp2_with fail
        refine (HBM.out _).mono ?_; rintro e w' ⟨rfl, rfl⟩
        go_wp2_with fail
        refine (HBN.out _).mono ?_; rintro e w' ⟨rfl, rfl⟩
        go_wp2_with fail
        refine (HS.out _).mono ?_; rintro e w' ⟨rfl, rfl⟩
        go_wp2_with fail
        refine (HBM.out _).mono ?_; rintro e w' ⟨rfl, rfl⟩
        go_wp2_with fail
        refine (HBN.out _).mono ?_; rintro e w' ⟨rfl, rfl⟩
        go_wp2_with fail
        refine (HT.out _).mono ?_; rintro e w2 ⟨rfl, hb2⟩
        have hB2 := hB1.trans (hb2.mono hB1.size); clear hb2
        go_wp2_with fail
        refine (HM.out _).mono ?_; rintro e w3 ⟨rfl, hb3⟩
        have hB3 := hB2.trans (hb3.mono hB2.size); clear hb3
        go_wp2
        go_ret2
        exact ⟨rfl, hB3⟩
  · have hz : X % Y ≠ 0 := fun h => hcase (.inl h)
    have hsne : sx ≠ sy := fun h => hcase (.inr h)
    have hqe := fo hz hsne
    have hxy : (sx != sy) = true := by rw [bne_iff_ne]; exact hsne
    have HS := Lib.hid (fun W => show Calls Tryz.prog 72 #[.string ⟨(Lib.decDigits (X / Y)).toArray⟩, .bool true] W (Pur W (.string ⟨(Lib.itoa (sg true (X / Y))).toArray⟩)) from hs true W)
    have lq1 : lng (sg true (X / Y)) ≤ 4000 := by
      refine Nat.le_trans (lng_mono (n := m) ?_) hm
      rw [sg_abs, hX]; exact Nat.div_le_self _ _
    have h1 := fun W => Minus_c (sg true (X / Y)) 1 W (by omega) (by have := (lng_le 1 (k := 1) (by omega)).2 (by decide); omega)
    rw [← hqe, itoa_one] at h1
    have H1 := Lib.hid h1
    have hd : (Lib.decDigits (X % Y) == [48]) = false := by rw [beq_eq_false_iff_ne]; exact fun e => hz (dec_eq_zero e)
    have hxy2 : (!sx == sy) = true := by revert hsne; cases sx <;> cases sy <;> simp
    clear fs fo hs em en hsx hsy hX hY hq hr dl lr lqn hm hn h0 hb hmm hqe hcase hclr h1 lq1 hz hsne
    generalize Lib.decDigits (X % Y) = tr at *
    generalize Lib.itoa (sg true (X / Y)) = tq1 at *
    go_enter Tryz.func49, Tryz.ntmps49
    go_wp2_with fail
    refine (HN.out).mono ?_; rintro e w' ⟨rfl, rfl⟩
    go_wp2_with fail
    refine (HSM.out _).mono ?_; rintro e w' ⟨rfl, rfl⟩
    go_wp2_with fail
    refine (HSN.out _).mono ?_; rintro e w' ⟨rfl, rfl⟩
    go_wp2_with fail
    refine (HD.out _).mono ?_; rintro e w1 ⟨rfl, hb1⟩
    have hB1 := hB0.trans (hb1.mono hB0.size); clear hb1
    go_wp2_with fail
    refine (HBM.out _).mono ?_; rintro e w' ⟨rfl, rfl⟩
    go_wp2_with fail
    refine (HBN.out _).mono ?_; rintro e w' ⟨rfl, rfl⟩
    go_wp2_with fail
    refine (HS.out _).mono ?_; rintro e w' ⟨rfl, rfl⟩
    go_wp2_with fail
    refine (HBM.out _).mono ?_; rintro e w' ⟨rfl, rfl⟩
    go_wp2_with fail
    refine (HBN.out _).mono ?_; rintro e w' ⟨rfl, rfl⟩
    go_wp2_with fail
    refine (H1.out _).mono ?_; rintro e w2 ⟨rfl, hb2⟩
    have hB2 := hB1.trans (hb2.mono hB1.size); clear hb2
    go_wp2_with fail
    refine (HT.out _).mono ?_; rintro e w3 ⟨rfl, hb3⟩
    have hB3 := hB2.trans (hb3.mono hB2.size); clear hb3
    go_wp2_with fail
    refine (HM.out _).mono ?_; rintro e w4 ⟨rfl, hb4⟩
    have hB4 := hB3.trans (hb4.mono hB3.size); clear hb4
    go_wp2
    go_ret2
    exact ⟨rfl, hB4⟩

theorem Parted_c (m n : Int) (w : World) (hm : lng m ≤ 4000) (hn : lng n ≤ 4000) (h0 : n ≠ 0) :
    Calls Tryz.prog 49 #[.string ⟨(Lib.itoa m).toArray⟩, .string ⟨(Lib.itoa n).toArray⟩] w (Ret w (.tuple #[.string ⟨(Lib.itoa (m.fdiv n)).toArray⟩, .string ⟨(Lib.itoa (m.fmod n)).toArray⟩])) := by
  by_cases hb : lng m ≤ 18 ∧ lng n ≤ 18
  · exact Parted_brief m n w hb.1 hb.2 h0
  · exact Parted_long m n w hm hn h0 hb
end Go.Proofs.Wk
