/- THE LAW WholeAdds: it returns true at all texts. -/
import Derived.Test.YtjljappilpkelaaGreatDoorL1M
namespace Go.Proofs.Wk
open Go.RowKit Mt

theorem bin2i_cmp_bd (a b : Txt) : (-1 ≤ (bin2i (fun m n => (cmp m n, 0)) a b).1 ∧ (bin2i (fun m n => (cmp m n, 0)) a b).1 ≤ 1) ∧ 0 ≤ (bin2i (fun m n => (cmp m n, 0)) a b).2 ∧ (bin2i (fun m n => (cmp m n, 0)) a b).2 ≤ 11 := by
  unfold bin2i; split
  · have := cmp_spec (val a) (val b)
    simp only; omega
  · have := both_range a b
    simp only; omega
set_option maxRecDepth 100000 in
set_option maxHeartbeats 4000000 in
theorem adds_c (a b : Txt) (w : World) (hg : Good w) (ha : a.length ≤ 140737488355328) (hb : b.length ≤ 140737488355328) :
    Calls Tryz.prog 7 #[.string ⟨a.toArray⟩, .string ⟨b.toArray⟩] w (Ret w (.bool true)) := by
  have HG := Lib.hid hg
  have hB0 := Below.refl w.heap.size w
  have HA := Lib.hid (fun W hW => wAdd_c a b W hW ha hb)
  have HA2 := Lib.hid (fun W => Add_c a b W ha hb)
  have HS := Lib.hid (fun W hW => wSub_c a b W hW ha hb)
  have HS2 := Lib.hid (fun W => Sub_c a b W ha hb)
  have HN := Lib.hid (fun W => wNeg_c a W ha)
  have HN2 := Lib.hid (fun W => rNeg_c a W ha)
  have HC := Lib.hid (fun W => wCompare_c a b W ha hb)
  have HC2 := Lib.hid (fun W => rCompare_c a b W ha hb)
  have ba := bin2_bd (f := fun m n => kept (m + n)) (fun m n => kept_bd _) a b
  have bs := bin2_bd (f := fun m n => kept (m - n)) (fun m n => kept_bd _) a b
  have bn := un1_bd (f := fun m => (Lib.itoa (-m), 0)) (fun m => by simp) a
  have bc := bin2i_cmp_bd a b
  obtain ⟨⟨ta, ea⟩, h1⟩ : ∃ p, bin2 (fun m n => kept (m + n)) a b = p := ⟨_, rfl⟩
  obtain ⟨⟨ts, es⟩, h2⟩ : ∃ p, bin2 (fun m n => kept (m - n)) a b = p := ⟨_, rfl⟩
  obtain ⟨⟨tn, en⟩, h3⟩ : ∃ p, un1 (fun m => (Lib.itoa (-m), 0)) a = p := ⟨_, rfl⟩
  obtain ⟨⟨c, ec⟩, h4⟩ : ∃ p, bin2i (fun m n => (cmp m n, 0)) a b = p := ⟨_, rfl⟩
  rw [h1] at HA HA2 ba
  rw [h2] at HS HS2 bs
  rw [h3] at HN HN2 bn
  rw [h4] at HC HC2 bc
  obtain ⟨a0, a1⟩ := ba
  obtain ⟨s0, s1⟩ := bs
  obtain ⟨n0, n1⟩ := bn
  obtain ⟨⟨d0, d1⟩, c0, c1⟩ := bc
  simp only at a0 a1 s0 s1 n0 n1 d0 d1 c0 c1
  clear h1 h2 h3 h4 hg ha hb
  by_cases hla : 1026 < a.length
  · have hla' : (1026 : Int) < (a.length : Int) := by omega
    clear hla
    go_enter Tryz.func7, Tryz.ntmps7
    go_wp2_with fail
    ((with_reducible refine (awake_c _ (HG.out.later hB0)).mono ?_); rintro e w1 ⟨rfl, hb1⟩)
    have hB1 := hB0.trans (hb1.mono hB0.size); clear hb1
    go_wp2
    go_ret
    exact ⟨rfl, hB1⟩
  · have hla' : ¬ (1026 : Int) < (a.length : Int) := by omega
    clear hla
    by_cases hlb : 1026 < b.length
    · have hlb' : (1026 : Int) < (b.length : Int) := by omega
      clear hlb
      go_enter Tryz.func7, Tryz.ntmps7
      go_wp2_with fail
      ((with_reducible refine (awake_c _ (HG.out.later hB0)).mono ?_); rintro e w1 ⟨rfl, hb1⟩)
      have hB1 := hB0.trans (hb1.mono hB0.size); clear hb1
      go_wp2
      go_ret
      exact ⟨rfl, hB1⟩
    · have hlb' : ¬ (1026 : Int) < (b.length : Int) := by omega
      clear hlb
      go_enter Tryz.func7, Tryz.ntmps7
      go_wp2_with fail
      ((with_reducible refine (HA.out _ (HG.out.later hB0)).mono ?_); rintro e w1 ⟨rfl, hb1⟩)
      have hB1 := hB0.trans (hb1.mono hB0.size); clear hb1
      go_wp2_with fail
      ((with_reducible refine (HA2.out _).mono ?_); rintro e w2 ⟨rfl, hb2⟩)
      have hB2 := hB1.trans (hb2.mono hB1.size); clear hb2
      go_wp2_with fail
      ((with_reducible refine (HS.out _ (HG.out.later hB2)).mono ?_); rintro e w3 ⟨rfl, hb3⟩)
      have hB3 := hB2.trans (hb3.mono hB2.size); clear hb3
      go_wp2_with fail
      ((with_reducible refine (HS2.out _).mono ?_); rintro e w4 ⟨rfl, hb4⟩)
      have hB4 := hB3.trans (hb4.mono hB3.size); clear hb4
      go_wp2_with fail
      ((with_reducible refine (HN.out _).mono ?_); rintro e w5 ⟨rfl, hb5⟩)
      have hB5 := hB4.trans (hb5.mono hB4.size); clear hb5
      go_wp2_with fail
      ((with_reducible refine (HN2.out _).mono ?_); rintro e w6 ⟨rfl, hb6⟩)
      have hB6 := hB5.trans (hb6.mono hB5.size); clear hb6
      go_wp2_with fail
      ((with_reducible refine (HC.out _).mono ?_); rintro e w7 ⟨rfl, hb7⟩)
      have hB7 := hB6.trans (hb7.mono hB6.size); clear hb7
      go_wp2_with fail
      ((with_reducible refine (HC2.out _).mono ?_); rintro e w8 ⟨rfl, hb8⟩)
      have hB8 := hB7.trans (hb8.mono hB7.size); clear hb8
      go_wp2_with fail
      ((with_reducible refine (awake_c _ (HG.out.later hB8)).mono ?_); rintro e w9 ⟨rfl, hb9⟩)
      have hB9 := hB8.trans (hb9.mono hB8.size); clear hb9
      go_wp2
      go_ret
      exact ⟨rfl, hB9⟩
end Go.Proofs.Wk
