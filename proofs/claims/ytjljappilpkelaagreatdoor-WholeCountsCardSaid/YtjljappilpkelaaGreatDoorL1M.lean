/- THE LAW WholeMultiplies: it returns true at all texts. -/
import Derived.Test.YtjljappilpkelaaGreatDoorRefH
import Derived.Test.YtjljappilpkelaaGreatDoorWhV
namespace Go.Proofs.Wk
open Go.RowKit Mt

theorem chk_bd (a : Txt) : 0 ≤ chk a ∧ chk a ≤ 11 := chk_range a
theorem kept_bd (n : Int) : 0 ≤ (kept n).2 ∧ (kept n).2 ≤ 11 := by unfold kept; split <;> simp
theorem bin2_bd {f : Int → Int → Txt × Int} (hf : ∀ m n, 0 ≤ (f m n).2 ∧ (f m n).2 ≤ 11) (a b : Txt) : 0 ≤ (bin2 f a b).2 ∧ (bin2 f a b).2 ≤ 11 := by
  unfold bin2; split
  · exact hf _ _
  · exact both_range a b
theorem un1_bd {f : Int → Txt × Int} (hf : ∀ m, 0 ≤ (f m).2 ∧ (f m).2 ≤ 11) (a : Txt) : 0 ≤ (un1 f a).2 ∧ (un1 f a).2 ≤ 11 := by
  unfold un1; split
  · exact hf _
  · exact chk_range a
/-- Quotients, remainders and both, at one error. -/
theorem bin3_same (a b : Txt) : ∃ (q r : Txt) (c : Int), bin3 prt a b = (q, r, c) ∧ bin2 quo2 a b = (q, c) ∧ bin2 rem2 a b = (r, c) ∧ 0 ≤ c ∧ c ≤ 11 := by
  rcases bin3_cases a b with ⟨c, hc, e1, e2, e3⟩ | ⟨q, r, hq, e1, e2, e3⟩
  · refine ⟨[], [], c, e1, e2, e3, ?_⟩
    have := bin2_bd (f := quo2) (fun m n => by unfold quo2; split <;> simp) a b
    rw [e2] at this; exact this
  · exact ⟨_, _, 0, e1, e2, e3, by omega, by omega⟩

set_option maxRecDepth 100000 in
set_option maxHeartbeats 4000000 in
theorem multiplies_c (a b : Txt) (w : World) (hg : Good w) (ha : a.length ≤ 140737488355328) (hb : b.length ≤ 140737488355328) :
    Calls Tryz.prog 3 #[.string ⟨a.toArray⟩, .string ⟨b.toArray⟩] w (Ret w (.bool true)) := by
  have HG := Lib.hid hg
  have hB0 := Below.refl w.heap.size w
  have HF1 := Lib.hid (fun W => Few_c a W ha)
  have HF2 := Lib.hid (fun W => Few_c b W hb)
  have HM := Lib.hid (fun W hW => wMul_c a b W hW ha hb)
  have HM2 := Lib.hid (fun W => Mul_c a b W ha hb)
  have HQ := Lib.hid (fun W hW => wQuo_c a b W hW ha hb)
  have HR := Lib.hid (fun W hW => wRem_c a b W hW ha hb)
  have HD := Lib.hid (fun W => rDivide_c a b W ha hb)
  have HC := Lib.hid (fun W hW => wGcd_c a b W hW ha hb)
  have HC2 := Lib.hid (fun W => rGcd_c a b W ha hb)
  obtain ⟨q, r, c, e1, e2, e3, c0, c1⟩ := bin3_same a b
  rw [e1] at HD; rw [e2] at HQ; rw [e3] at HR
  have bm := bin2_bd (f := fun m n => kept (m * n)) (fun m n => kept_bd _) a b
  have bg := bin2_bd (f := gcd2) (fun m n => by unfold gcd2; simp) a b
  obtain ⟨⟨tm, em⟩, hm⟩ : ∃ p, bin2 (fun m n => kept (m * n)) a b = p := ⟨_, rfl⟩
  obtain ⟨⟨tg, eg⟩, hgc⟩ : ∃ p, bin2 gcd2 a b = p := ⟨_, rfl⟩
  rw [hm] at HM HM2 bm
  rw [hgc] at HC HC2 bg
  obtain ⟨m0, m1⟩ := bm
  obtain ⟨g0, g1⟩ := bg
  simp only at m0 m1 g0 g1
  clear e1 e2 e3 hm hgc hg ha hb
  generalize fewB a = fa at *
  generalize fewB b = fb at *
  cases fa
  · go_enter Tryz.func3, Tryz.ntmps3
    go_wp2_with fail
    ((with_reducible refine (HF1.out _).mono ?_); rintro e w' ⟨rfl, rfl⟩)
    go_wp2_with fail
    ((with_reducible refine (awake_c _ (HG.out.later hB0)).mono ?_); rintro e w1 ⟨rfl, hb1⟩)
    have hB1 := hB0.trans (hb1.mono hB0.size); clear hb1
    go_wp2
    go_ret
    exact ⟨rfl, hB1⟩
  · cases fb
    · go_enter Tryz.func3, Tryz.ntmps3
      go_wp2_with fail
      ((with_reducible refine (HF1.out _).mono ?_); rintro e w' ⟨rfl, rfl⟩)
      go_wp2_with fail
      ((with_reducible refine (HF2.out _).mono ?_); rintro e w' ⟨rfl, rfl⟩)
      go_wp2_with fail
      ((with_reducible refine (awake_c _ (HG.out.later hB0)).mono ?_); rintro e w1 ⟨rfl, hb1⟩)
      have hB1 := hB0.trans (hb1.mono hB0.size); clear hb1
      go_wp2
      go_ret
      exact ⟨rfl, hB1⟩
    · go_enter Tryz.func3, Tryz.ntmps3
      go_wp2_with fail
      ((with_reducible refine (HF1.out _).mono ?_); rintro e w' ⟨rfl, rfl⟩)
      go_wp2_with fail
      ((with_reducible refine (HF2.out _).mono ?_); rintro e w' ⟨rfl, rfl⟩)
      go_wp2_with fail
      ((with_reducible refine (HM.out _ (HG.out.later hB0)).mono ?_); rintro e w1 ⟨rfl, hb1⟩)
      have hB1 := hB0.trans (hb1.mono hB0.size); clear hb1
      go_wp2_with fail
      ((with_reducible refine (HM2.out _).mono ?_); rintro e w2 ⟨rfl, hb2⟩)
      have hB2 := hB1.trans (hb2.mono hB1.size); clear hb2
      go_wp2_with fail
      ((with_reducible refine (HQ.out _ (HG.out.later hB2)).mono ?_); rintro e w3 ⟨rfl, hb3⟩)
      have hB3 := hB2.trans (hb3.mono hB2.size); clear hb3
      go_wp2_with fail
      ((with_reducible refine (HR.out _ (HG.out.later hB3)).mono ?_); rintro e w4 ⟨rfl, hb4⟩)
      have hB4 := hB3.trans (hb4.mono hB3.size); clear hb4
      go_wp2_with fail
      ((with_reducible refine (HD.out _).mono ?_); rintro e w5 ⟨rfl, hb5⟩)
      have hB5 := hB4.trans (hb5.mono hB4.size); clear hb5
      go_wp2_with fail
      ((with_reducible refine (HC.out _ (HG.out.later hB5)).mono ?_); rintro e w6 ⟨rfl, hb6⟩)
      have hB6 := hB5.trans (hb6.mono hB5.size); clear hb6
      go_wp2_with fail
      ((with_reducible refine (HC2.out _).mono ?_); rintro e w7 ⟨rfl, hb7⟩)
      have hB7 := hB6.trans (hb7.mono hB6.size); clear hb7
      go_wp2_with fail
      ((with_reducible refine (awake_c _ (HG.out.later hB7)).mono ?_); rintro e w8 ⟨rfl, hb8⟩)
      have hB8 := hB7.trans (hb8.mono hB7.size); clear hb8
      go_wp2
      go_ret
      exact ⟨rfl, hB8⟩
end Go.Proofs.Wk
