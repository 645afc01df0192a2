/- THE LAW WholeCounts: it returns true at all texts and ints. -/
import Derived.Test.YtjljappilpkelaaGreatDoorRefM
import Derived.Test.YtjljappilpkelaaGreatDoorL1M
namespace Go.Proofs.Wk
open Go.RowKit Mt

theorem pow2_bd (n m : Int) : 0 ≤ (pow2 n m).2 ∧ (pow2 n m).2 ≤ 11 := by
  unfold pow2; split
  · simp
  · exact kept_bd _
theorem bino_bd (n k : Int) : 0 ≤ (bino n k).2 ∧ (bino n k).2 ≤ 11 := by
  unfold bino; split
  · simp
  · exact kept_bd _
set_option maxRecDepth 100000 in
set_option maxHeartbeats 4000000 in
theorem counts_c (a : Txt) (n k : Int) (w : World) (hg : Good w) (ha : a.length ≤ 140737488355328) :
    Calls Tryz.prog 4 #[.string ⟨a.toArray⟩, .int .i64 n, .int .i64 k] w (Ret w (.bool true)) := by
  have HG := Lib.hid hg
  have hB0 := Below.refl w.heap.size w
  have HF := Lib.hid (fun W => Few_c a W ha)
  have HP := Lib.hid (fun W hW => wPow_c a n W hW ha)
  have HP2 := Lib.hid (fun W => rPow_c a n W ha)
  have HB := Lib.hid (fun W hW => wBinomial_c n k W hW)
  have HB2 := Lib.hid (fun W => rBinomial_c n k W)
  have bp := un1_bd (f := pow2 n) (pow2_bd n) a
  have bb := bino_bd n k
  obtain ⟨⟨tp, ep⟩, h1⟩ : ∃ p, un1 (pow2 n) a = p := ⟨_, rfl⟩
  obtain ⟨⟨tb, eb⟩, h2⟩ : ∃ p, bino n k = p := ⟨_, rfl⟩
  rw [h1] at HP HP2 bp
  rw [h2] at HB HB2 bb
  obtain ⟨p0, p1⟩ := bp
  obtain ⟨b0, b1⟩ := bb
  simp only at p0 p1 b0 b1
  clear h1 h2 hg ha
  generalize fewB a = f at *
  cases f
  · go_enter Tryz.func4, Tryz.ntmps4
    go_wp2_with fail
    ((with_reducible refine (HF.out _).mono ?_); rintro e w' ⟨rfl, rfl⟩)
    go_wp2_with fail
    ((with_reducible refine (awake_c _ (HG.out.later hB0)).mono ?_); rintro e w1 ⟨rfl, hb1⟩)
    have hB1 := hB0.trans (hb1.mono hB0.size); clear hb1
    go_wp2
    go_ret
    exact ⟨rfl, hB1⟩
  · by_cases n30 : n ≤ 30
    · have n40 : ¬ 40 < n := by omega
      go_enter Tryz.func4, Tryz.ntmps4
      go_wp2_with fail
      ((with_reducible refine (HF.out _).mono ?_); rintro e w' ⟨rfl, rfl⟩)
      go_wp2_with fail
      ((with_reducible refine (HP.out _ (HG.out.later hB0)).mono ?_); rintro e w1 ⟨rfl, hb1⟩)
      have hB1 := hB0.trans (hb1.mono hB0.size); clear hb1
      go_wp2_with fail
      ((with_reducible refine (HP2.out _).mono ?_); rintro e w2 ⟨rfl, hb2⟩)
      have hB2 := hB1.trans (hb2.mono hB1.size); clear hb2
      go_wp2_with fail
      ((with_reducible refine (HB.out _ (HG.out.later hB2)).mono ?_); rintro e w3 ⟨rfl, hb3⟩)
      have hB3 := hB2.trans (hb3.mono hB2.size); clear hb3
      go_wp2_with fail
      ((with_reducible refine (HB2.out _).mono ?_); rintro e w4 ⟨rfl, hb4⟩)
      have hB4 := hB3.trans (hb4.mono hB3.size); clear hb4
      go_wp2_with fail
      ((with_reducible refine (awake_c _ (HG.out.later hB4)).mono ?_); rintro e w5 ⟨rfl, hb5⟩)
      have hB5 := hB4.trans (hb5.mono hB4.size); clear hb5
      go_wp2
      go_ret
      exact ⟨rfl, hB5⟩
    · by_cases n4 : 4096 < n
      · have n40 : 40 < n := by omega
        have n5 : ¬ n ≤ 4096 := by omega
        go_enter Tryz.func4, Tryz.ntmps4
        go_wp2_with fail
        ((with_reducible refine (HF.out _).mono ?_); rintro e w' ⟨rfl, rfl⟩)
        go_wp2_with fail
        ((with_reducible refine (HP.out _ (HG.out.later hB0)).mono ?_); rintro e w1 ⟨rfl, hb1⟩)
        have hB1 := hB0.trans (hb1.mono hB0.size); clear hb1
        go_wp2_with fail
        ((with_reducible refine (HP2.out _).mono ?_); rintro e w2 ⟨rfl, hb2⟩)
        have hB2 := hB1.trans (hb2.mono hB1.size); clear hb2
        go_wp2_with fail
        ((with_reducible refine (HB.out _ (HG.out.later hB2)).mono ?_); rintro e w3 ⟨rfl, hb3⟩)
        have hB3 := hB2.trans (hb3.mono hB2.size); clear hb3
        go_wp2_with fail
        ((with_reducible refine (HB2.out _).mono ?_); rintro e w4 ⟨rfl, hb4⟩)
        have hB4 := hB3.trans (hb4.mono hB3.size); clear hb4
        go_wp2_with fail
        ((with_reducible refine (awake_c _ (HG.out.later hB4)).mono ?_); rintro e w5 ⟨rfl, hb5⟩)
        have hB5 := hB4.trans (hb5.mono hB4.size); clear hb5
        go_wp2
        go_ret
        exact ⟨rfl, hB5⟩
      · have n5 : n ≤ 4096 := by omega
        by_cases n40 : 40 < n
        · by_cases hs : a = [48] ∨ a = [49] ∨ a = [45, 49]
          · rcases hs with rfl | rfl | rfl
            all_goals
              go_enter Tryz.func4, Tryz.ntmps4
              go_wp2_with fail
              ((with_reducible refine (HF.out _).mono ?_); rintro e w' ⟨rfl, rfl⟩)
              go_wp2_with fail
              ((with_reducible refine (HP.out _ (HG.out.later hB0)).mono ?_); rintro e w1 ⟨rfl, hb1⟩)
              have hB1 := hB0.trans (hb1.mono hB0.size); clear hb1
              go_wp2_with fail
              ((with_reducible refine (HP2.out _).mono ?_); rintro e w2 ⟨rfl, hb2⟩)
              have hB2 := hB1.trans (hb2.mono hB1.size); clear hb2
              go_wp2_with fail
              ((with_reducible refine (awake_c _ (HG.out.later hB2)).mono ?_); rintro e w3 ⟨rfl, hb3⟩)
              have hB3 := hB2.trans (hb3.mono hB2.size); clear hb3
              go_wp2
              go_ret
              exact ⟨rfl, hB3⟩
          · have e1 : (a == [48]) = false := beq_eq_false_iff_ne.2 fun e => hs (.inl e)
            have e2 : (a == [49]) = false := beq_eq_false_iff_ne.2 fun e => hs (.inr (.inl e))
            have e3 : (a == [45, 49]) = false := beq_eq_false_iff_ne.2 fun e => hs (.inr (.inr e))
            clear hs
            go_enter Tryz.func4, Tryz.ntmps4
            go_wp2_with fail
            ((with_reducible refine (HF.out _).mono ?_); rintro e w' ⟨rfl, rfl⟩)
            go_wp2_with fail
            ((with_reducible refine (awake_c _ (HG.out.later hB0)).mono ?_); rintro e w1 ⟨rfl, hb1⟩)
            have hB1 := hB0.trans (hb1.mono hB0.size); clear hb1
            go_wp2
            go_ret
            exact ⟨rfl, hB1⟩
        · by_cases hs : a = [48] ∨ a = [49] ∨ a = [45, 49]
          · rcases hs with rfl | rfl | rfl
            all_goals
              go_enter Tryz.func4, Tryz.ntmps4
              go_wp2_with fail
              ((with_reducible refine (HF.out _).mono ?_); rintro e w' ⟨rfl, rfl⟩)
              go_wp2_with fail
              ((with_reducible refine (HP.out _ (HG.out.later hB0)).mono ?_); rintro e w1 ⟨rfl, hb1⟩)
              have hB1 := hB0.trans (hb1.mono hB0.size); clear hb1
              go_wp2_with fail
              ((with_reducible refine (HP2.out _).mono ?_); rintro e w2 ⟨rfl, hb2⟩)
              have hB2 := hB1.trans (hb2.mono hB1.size); clear hb2
              go_wp2_with fail
              ((with_reducible refine (HB.out _ (HG.out.later hB2)).mono ?_); rintro e w3 ⟨rfl, hb3⟩)
              have hB3 := hB2.trans (hb3.mono hB2.size); clear hb3
              go_wp2_with fail
              ((with_reducible refine (HB2.out _).mono ?_); rintro e w4 ⟨rfl, hb4⟩)
              have hB4 := hB3.trans (hb4.mono hB3.size); clear hb4
              go_wp2_with fail
              ((with_reducible refine (awake_c _ (HG.out.later hB4)).mono ?_); rintro e w5 ⟨rfl, hb5⟩)
              have hB5 := hB4.trans (hb5.mono hB4.size); clear hb5
              go_wp2
              go_ret
              exact ⟨rfl, hB5⟩
          · have e1 : (a == [48]) = false := beq_eq_false_iff_ne.2 fun e => hs (.inl e)
            have e2 : (a == [49]) = false := beq_eq_false_iff_ne.2 fun e => hs (.inr (.inl e))
            have e3 : (a == [45, 49]) = false := beq_eq_false_iff_ne.2 fun e => hs (.inr (.inr e))
            clear hs
            go_enter Tryz.func4, Tryz.ntmps4
            go_wp2_with fail
            ((with_reducible refine (HF.out _).mono ?_); rintro e w' ⟨rfl, rfl⟩)
            go_wp2_with fail
            ((with_reducible refine (HB.out _ (HG.out.later hB0)).mono ?_); rintro e w1 ⟨rfl, hb1⟩)
            have hB1 := hB0.trans (hb1.mono hB0.size); clear hb1
            go_wp2_with fail
            ((with_reducible refine (HB2.out _).mono ?_); rintro e w2 ⟨rfl, hb2⟩)
            have hB2 := hB1.trans (hb2.mono hB1.size); clear hb2
            go_wp2_with fail
            ((with_reducible refine (awake_c _ (HG.out.later hB2)).mono ?_); rintro e w3 ⟨rfl, hb3⟩)
            have hB3 := hB2.trans (hb3.mono hB2.size); clear hb3
            go_wp2
            go_ret
            exact ⟨rfl, hB3⟩
end Go.Proofs.Wk
