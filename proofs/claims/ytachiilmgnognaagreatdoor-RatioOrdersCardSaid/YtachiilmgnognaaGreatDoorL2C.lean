/- THE LAWS RatioChecks, RatioMakes, RatioComputes: they return true at all texts. -/
import Derived.Test.YtachiilmgnognaaGreatDoorL2A
import Derived.Test.YtachiilmgnognaaGreatDoorGO
import Derived.Test.YtachiilmgnognaaGreatDoorRqI
namespace Go.Proofs.Wk
open Go.RowKit Mt

theorem run1_bd {α : Type} {z : α} {f : Rat → α × Int} (hf : ∀ q, 0 ≤ (f q).2 ∧ (f q).2 ≤ 11) (a : Txt) : 0 ≤ (run1 z f a).2 ∧ (run1 z f a).2 ≤ 11 := by
  unfold run1; split
  · exact hf _
  · exact rchk_range a
theorem rbin_bd {α : Type} {z : α} {f : Rat → Rat → α × Int} (hf : ∀ p q, 0 ≤ (f p q).2 ∧ (f p q).2 ≤ 11) (a b : Txt) : 0 ≤ (rbin z f a b).2 ∧ (rbin z f a b).2 ≤ 11 := by
  unfold rbin; split
  · exact hf _ _
  · exact firstR_range _
set_option maxRecDepth 100000 in
set_option maxHeartbeats 4000000 in
theorem checks2_c (a : Txt) (w : World) (hg : Good w) (ha : a.length ≤ 140737488355328) : Calls Tryz.prog 7 #[.string ⟨a.toArray⟩] w (Ret w (.bool true)) := by
  have HG := Lib.hid hg
  have hB0 := Below.refl w.heap.size w
  have HF := Lib.hid (fun W => Few_q a W ha)
  have P1 := Lib.hid (fun W hW => qParts_c a W hW ha)
  have P2 := Lib.hid (fun W => rParts_q a W ha)
  have S1 := Lib.hid (fun W hW => qSign_c a W hW ha)
  have S2 := Lib.hid (fun W => rSign_q a W ha)
  have N1 := Lib.hid (fun W hW => qNeg_c a W hW ha)
  have N2 := Lib.hid (fun W => rNeg_q a W ha)
  have F1 := Lib.hid (fun W hW => qFloor_c a W hW ha)
  have F2 := Lib.hid (fun W => rFloor_q a W ha)
  have C1 := Lib.hid (fun W hW => qCheck_c a W hW ha)
  have C2 := Lib.hid (fun W => rqCheck_c a W ha)
  have bp := run1_bd (z := (([], []) : Txt × Txt)) (f := partQ) (fun q => by unfold partQ; simp) a
  have bs := run1_bd (z := (0 : Int)) (f := signQ) (fun q => by unfold signQ; simp) a
  have bn := run1_bd (z := ([] : Txt)) (f := negQ) (fun q => by unfold negQ; simp) a
  have bf := run1_bd (z := ([] : Txt)) (f := floorQ) (fun q => by unfold floorQ; simp) a
  have bc := rchk_range a
  have bs0 : -1 ≤ (run1 (0 : Int) signQ a).1 ∧ (run1 (0 : Int) signQ a).1 ≤ 1 := by
    unfold run1; split
    · exact sgnQ_bd _
    · simp
  obtain ⟨⟨⟨p1, p2⟩, p3⟩, h1⟩ : ∃ p, run1 (([], []) : Txt × Txt) partQ a = p := ⟨_, rfl⟩
  obtain ⟨⟨s1, s2⟩, h2⟩ : ∃ p, run1 (0 : Int) signQ a = p := ⟨_, rfl⟩
  obtain ⟨⟨n1, n2⟩, h3⟩ : ∃ p, run1 ([] : Txt) negQ a = p := ⟨_, rfl⟩
  obtain ⟨⟨f1, f2⟩, h4⟩ : ∃ p, run1 ([] : Txt) floorQ a = p := ⟨_, rfl⟩
  rw [h1] at P1 P2 bp
  rw [h2] at S1 S2 bs bs0
  rw [h3] at N1 N2 bn
  rw [h4] at F1 F2 bf
  obtain ⟨bp0, bp1⟩ := bp
  obtain ⟨bs2, bs3⟩ := bs
  obtain ⟨bs4, bs5⟩ := bs0
  obtain ⟨bn0, bn1⟩ := bn
  obtain ⟨bf0, bf1⟩ := bf
  obtain ⟨bc0, bc1⟩ := bc
  simp only at bp0 bp1 bs2 bs3 bs4 bs5 bn0 bn1 bf0 bf1
  generalize rchk a = x at *
  clear h1 h2 h3 h4 hg ha
  go_enter Tryz.func7, Tryz.ntmps7
  go_wp2_with fail
  ((with_reducible refine (HF.out _).mono ?_); rintro e w1 ⟨b, rfl, hb1⟩)
  have hB1 := hB0.trans (hb1.mono hB0.size)
  clear hb1
  cases b
  · go_wp2_with fail
    ((with_reducible refine (awake2_c _ (HG.out.later hB1)).mono ?_); rintro e w2 ⟨rfl, hb2⟩)
    have hB2 := hB1.trans (hb2.mono hB1.size); clear hb2
    go_wp2
    go_ret
    exact ⟨rfl, hB2⟩
  · go_wp2_with fail
    ((with_reducible refine (P1.out _ (HG.out.later hB1)).mono ?_); rintro e w2 ⟨rfl, hb2⟩)
    have hB2 := hB1.trans (hb2.mono hB1.size); clear hb2
    go_wp2_with fail
    ((with_reducible refine (P2.out _).mono ?_); rintro e w3 ⟨rfl, hb3⟩)
    have hB3 := hB2.trans (hb3.mono hB2.size); clear hb3
    go_wp2_with fail
    ((with_reducible refine (S1.out _ (HG.out.later hB3)).mono ?_); rintro e w4 ⟨rfl, hb4⟩)
    have hB4 := hB3.trans (hb4.mono hB3.size); clear hb4
    go_wp2_with fail
    ((with_reducible refine (S2.out _).mono ?_); rintro e w5 ⟨rfl, hb5⟩)
    have hB5 := hB4.trans (hb5.mono hB4.size); clear hb5
    go_wp2_with fail
    ((with_reducible refine (N1.out _ (HG.out.later hB5)).mono ?_); rintro e w6 ⟨rfl, hb6⟩)
    have hB6 := hB5.trans (hb6.mono hB5.size); clear hb6
    go_wp2_with fail
    ((with_reducible refine (N2.out _).mono ?_); rintro e w7 ⟨rfl, hb7⟩)
    have hB7 := hB6.trans (hb7.mono hB6.size); clear hb7
    go_wp2_with fail
    ((with_reducible refine (F1.out _ (HG.out.later hB7)).mono ?_); rintro e w8 ⟨rfl, hb8⟩)
    have hB8 := hB7.trans (hb8.mono hB7.size); clear hb8
    go_wp2_with fail
    ((with_reducible refine (F2.out _).mono ?_); rintro e w9 ⟨rfl, hb9⟩)
    have hB9 := hB8.trans (hb9.mono hB8.size); clear hb9
    go_wp2_with fail
    ((with_reducible refine (awake2_c _ (HG.out.later hB9)).mono ?_); rintro e w10 ⟨rfl, hb10⟩)
    have hB10 := hB9.trans (hb10.mono hB9.size); clear hb10
    go_wp2_with fail
    ((with_reducible refine (C1.out _ (HG.out.later hB10)).mono ?_); rintro e w11 ⟨rfl, hb11⟩)
    have hB11 := hB10.trans (hb11.mono hB10.size); clear hb11
    go_wp2_with fail
    ((with_reducible refine (C2.out _).mono ?_); rintro e w12 ⟨rfl, hb12⟩)
    have hB12 := hB11.trans (hb12.mono hB11.size); clear hb12
    go_wp2
    go_ret
    exact ⟨rfl, hB12⟩
theorem addQ_bd (p q : Rat) : 0 ≤ (addQ p q).2 ∧ (addQ p q).2 ≤ 11 := by unfold addQ; split <;> simp
theorem subQ_bd (p q : Rat) : 0 ≤ (subQ p q).2 ∧ (subQ p q).2 ≤ 11 := by unfold subQ; split <;> simp
theorem mulQ_bd (p q : Rat) : 0 ≤ (mulQ p q).2 ∧ (mulQ p q).2 ≤ 11 := by unfold mulQ; split <;> simp
theorem divQ_bd (p q : Rat) : 0 ≤ (divQ p q).2 ∧ (divQ p q).2 ≤ 11 := by
  unfold divQ; split
  · simp
  · split <;> simp
theorem cmpE_bd (p q : Rat) : 0 ≤ (cmpE p q).2 ∧ (cmpE p q).2 ≤ 11 := by unfold cmpE; split <;> simp
set_option maxRecDepth 100000 in
set_option maxHeartbeats 4000000 in
theorem computes_c (a b : Txt) (w : World) (hg : Good w) (ha : a.length ≤ 140737488355328) (hb : b.length ≤ 140737488355328) : Calls Tryz.prog 4 #[.string ⟨a.toArray⟩, .string ⟨b.toArray⟩] w (Ret w (.bool true)) := by
  have HG := Lib.hid hg
  have hB0 := Below.refl w.heap.size w
  have HF := Lib.hid (fun W => Few_q a W ha)
  have HF2 := Lib.hid (fun W => Few_q b W hb)
  have A1 := Lib.hid (fun W hW => qAdd_c a b W hW ha hb)
  have A2 := Lib.hid (fun W => rAdd_q a b W ha hb)
  have S1 := Lib.hid (fun W hW => qSub_c a b W hW ha hb)
  have S2 := Lib.hid (fun W => rSub_q a b W ha hb)
  have M1 := Lib.hid (fun W hW => qMul_c a b W hW ha hb)
  have M2 := Lib.hid (fun W => rMul_q a b W ha hb)
  have D1 := Lib.hid (fun W hW => qDiv_c a b W hW ha hb)
  have D2 := Lib.hid (fun W => rDiv_q a b W ha hb)
  have C1 := Lib.hid (fun W hW => qCompare_c a b W hW ha hb)
  have C2 := Lib.hid (fun W => rCompare_q a b W ha hb)
  have ba := rbin_bd (z := ([] : Txt)) addQ_bd a b
  have bs := rbin_bd (z := ([] : Txt)) subQ_bd a b
  have bm := rbin_bd (z := ([] : Txt)) mulQ_bd a b
  have bd := rbin_bd (z := ([] : Txt)) divQ_bd a b
  have bc := rbin_bd (z := (0 : Int)) cmpE_bd a b
  have bc0 : -1 ≤ (rbin (0 : Int) cmpE a b).1 ∧ (rbin (0 : Int) cmpE a b).1 ≤ 1 := by
    unfold rbin; split
    · unfold cmpE; split
      · exact cmpQ_bd _ _
      · simp
    · simp
  obtain ⟨⟨t1, e1⟩, h1⟩ : ∃ p, rbin ([] : Txt) addQ a b = p := ⟨_, rfl⟩
  obtain ⟨⟨t2, e2⟩, h2⟩ : ∃ p, rbin ([] : Txt) subQ a b = p := ⟨_, rfl⟩
  obtain ⟨⟨t3, e3⟩, h3⟩ : ∃ p, rbin ([] : Txt) mulQ a b = p := ⟨_, rfl⟩
  obtain ⟨⟨t4, e4⟩, h4⟩ : ∃ p, rbin ([] : Txt) divQ a b = p := ⟨_, rfl⟩
  obtain ⟨⟨t5, e5⟩, h5⟩ : ∃ p, rbin (0 : Int) cmpE a b = p := ⟨_, rfl⟩
  rw [h1] at A1 A2 ba
  rw [h2] at S1 S2 bs
  rw [h3] at M1 M2 bm
  rw [h4] at D1 D2 bd
  rw [h5] at C1 C2 bc bc0
  obtain ⟨a0, a1⟩ := ba
  obtain ⟨s0, s1⟩ := bs
  obtain ⟨m0, m1⟩ := bm
  obtain ⟨d0, d1⟩ := bd
  obtain ⟨c0, c1⟩ := bc
  obtain ⟨c2, c3⟩ := bc0
  simp only at a0 a1 s0 s1 m0 m1 d0 d1 c0 c1 c2 c3
  clear h1 h2 h3 h4 h5 hg ha hb
  go_enter Tryz.func4, Tryz.ntmps4
  go_wp2_with fail
  ((with_reducible refine (HF.out _).mono ?_); rintro e w1 ⟨b1, rfl, hb1⟩)
  have hB1 := hB0.trans (hb1.mono hB0.size)
  clear hb1
  cases b1
  · go_wp2_with fail
    ((with_reducible refine (awake2_c _ (HG.out.later hB1)).mono ?_); rintro e w2 ⟨rfl, hb2⟩)
    have hB2 := hB1.trans (hb2.mono hB1.size); clear hb2
    go_wp2
    go_ret
    exact ⟨rfl, hB2⟩
  · go_wp2_with fail
    ((with_reducible refine (HF2.out _).mono ?_); rintro e w2 ⟨b2, rfl, hb2⟩)
    have hB2 := hB1.trans (hb2.mono hB1.size)
    clear hb2
    cases b2
    · go_wp2_with fail
      ((with_reducible refine (awake2_c _ (HG.out.later hB2)).mono ?_); rintro e w3 ⟨rfl, hb3⟩)
      have hB3 := hB2.trans (hb3.mono hB2.size); clear hb3
      go_wp2
      go_ret
      exact ⟨rfl, hB3⟩
    · go_wp2_with fail
      ((with_reducible refine (A1.out _ (HG.out.later hB2)).mono ?_); rintro e w3 ⟨rfl, hb3⟩)
      have hB3 := hB2.trans (hb3.mono hB2.size); clear hb3
      go_wp2_with fail
      ((with_reducible refine (A2.out _).mono ?_); rintro e w4 ⟨rfl, hb4⟩)
      have hB4 := hB3.trans (hb4.mono hB3.size); clear hb4
      go_wp2_with fail
      ((with_reducible refine (S1.out _ (HG.out.later hB4)).mono ?_); rintro e w5 ⟨rfl, hb5⟩)
      have hB5 := hB4.trans (hb5.mono hB4.size); clear hb5
      go_wp2_with fail
      ((with_reducible refine (S2.out _).mono ?_); rintro e w6 ⟨rfl, hb6⟩)
      have hB6 := hB5.trans (hb6.mono hB5.size); clear hb6
      go_wp2_with fail
      ((with_reducible refine (M1.out _ (HG.out.later hB6)).mono ?_); rintro e w7 ⟨rfl, hb7⟩)
      have hB7 := hB6.trans (hb7.mono hB6.size); clear hb7
      go_wp2_with fail
      ((with_reducible refine (M2.out _).mono ?_); rintro e w8 ⟨rfl, hb8⟩)
      have hB8 := hB7.trans (hb8.mono hB7.size); clear hb8
      go_wp2_with fail
      ((with_reducible refine (D1.out _ (HG.out.later hB8)).mono ?_); rintro e w9 ⟨rfl, hb9⟩)
      have hB9 := hB8.trans (hb9.mono hB8.size); clear hb9
      go_wp2_with fail
      ((with_reducible refine (D2.out _).mono ?_); rintro e w10 ⟨rfl, hb10⟩)
      have hB10 := hB9.trans (hb10.mono hB9.size); clear hb10
      go_wp2_with fail
      ((with_reducible refine (C1.out _ (HG.out.later hB10)).mono ?_); rintro e w11 ⟨rfl, hb11⟩)
      have hB11 := hB10.trans (hb11.mono hB10.size); clear hb11
      go_wp2_with fail
      ((with_reducible refine (C2.out _).mono ?_); rintro e w12 ⟨rfl, hb12⟩)
      have hB12 := hB11.trans (hb12.mono hB11.size); clear hb12
      go_wp2_with fail
      ((with_reducible refine (awake2_c _ (HG.out.later hB12)).mono ?_); rintro e w13 ⟨rfl, hb13⟩)
      have hB13 := hB12.trans (hb13.mono hB12.size); clear hb13
      go_wp2
      go_ret
      exact ⟨rfl, hB13⟩
end Go.Proofs.Wk
