/- THE EXAMPLES OF THE CHAPTER: the law's 'awake'. -/
import Derived.Test.YtjljappilpkelaaGreatDoorWhS
import Derived.Test.YtjljappilpkelaaGreatDoorWhT
import Derived.LoopN
namespace Go.Proofs.Wk
open Go.RowKit Mt

theorem itoa_is {n : Int} {l : Txt} (hc : canon l = true) (hv : val l = n) : Lib.itoa n = l := by rw [← hv]; exact itoa_val hc
theorem kept_is {n : Int} {l : Txt} (hc : chk l = 0) (hv : val l = n) : kept n = (l, 0) := by
  have e := itoa_is (chk_zero.1 hc).1 hv
  rw [kept_chk, e, if_pos hc]
theorem bcell {W w1 : World} (hb : Below W.heap.size W w1) : (∀ b o, b < W.heap.size → w1.cell? ⟨b, o, none⟩ = W.cell? ⟨b, o, none⟩) ∧ (∀ b o, b < W.heap.size → w1.frozen? ⟨b, o, none⟩ = W.frozen? ⟨b, o, none⟩) :=
  ⟨fun b o h => hb.cell (p := ⟨b, o, none⟩) h, fun b o h => hb.frozen (p := ⟨b, o, none⟩) h⟩

theorem ex_quo1 : bin2 quo2 [45, 49, 55] [53] = ([45, 52], 0) := by
  rw [show bin2 quo2 [45, 49, 55] [53] = (Lib.itoa (-4), 0) from rfl, itoa_is (l := [45, 52]) (by decide) (by decide)]
theorem ex_quo2 : bin2 quo2 [49, 55] [45, 53] = ([45, 52], 0) := by
  rw [show bin2 quo2 [49, 55] [45, 53] = (Lib.itoa (-4), 0) from rfl, itoa_is (l := [45, 52]) (by decide) (by decide)]
theorem ex_rem1 : bin2 rem2 [45, 49, 55] [53] = ([51], 0) := by
  rw [show bin2 rem2 [45, 49, 55] [53] = (Lib.itoa 3, 0) from rfl, itoa_is (l := [51]) (by decide) (by decide)]
theorem ex_rem2 : bin2 rem2 [49, 55] [45, 53] = ([45, 51], 0) := by
  rw [show bin2 rem2 [49, 55] [45, 53] = (Lib.itoa (-3), 0) from rfl, itoa_is (l := [45, 51]) (by decide) (by decide)]
theorem ex_gcd : bin2 gcd2 [45, 56, 52] [51, 54] = ([49, 50], 0) := by
  rw [show bin2 gcd2 [45, 56, 52] [51, 54] = (Lib.itoa (Int.gcd (-84) 36), 0) from rfl, show Int.gcd (-84) 36 = 12 from by decide, itoa_is (l := [49, 50]) (by decide) (by decide)]
theorem ex_bino : bino 10 3 = ([49, 50, 48], 0) := by
  rw [show bino 10 3 = kept 120 from rfl, kept_is (l := [49, 50, 48]) (by decide) (by decide)]
theorem ex_pow : un1 (pow2 70) [50] = ([49, 49, 56, 48, 53, 57, 49, 54, 50, 48, 55, 49, 55, 52, 49, 49, 51, 48, 51, 52, 50, 52], 0) := by
  rw [show un1 (pow2 70) [50] = kept (2 ^ 70) from rfl, kept_is (l := [49, 49, 56, 48, 53, 57, 49, 54, 50, 48, 55, 49, 55, 52, 49, 49, 51, 48, 51, 52, 50, 52]) (by decide) (by decide)]

set_option maxRecDepth 100000 in
set_option maxHeartbeats 4000000 in
theorem awake_c (w : World) (hg : Good w) : Calls Tryz.prog 9 #[] w (Ret w (.bool true)) := by
  have HG := Lib.hid hg
  have q1 := fun W hW => wQuo_c [45, 49, 55] [53] W hW (by decide) (by decide)
  rw [ex_quo1] at q1
  have q2 := fun W hW => wQuo_c [49, 55] [45, 53] W hW (by decide) (by decide)
  rw [ex_quo2] at q2
  have r1 := fun W hW => wRem_c [45, 49, 55] [53] W hW (by decide) (by decide)
  rw [ex_rem1] at r1
  have r2 := fun W hW => wRem_c [49, 55] [45, 53] W hW (by decide) (by decide)
  rw [ex_rem2] at r2
  have g1 := fun W hW => wGcd_c [45, 56, 52] [51, 54] W hW (by decide) (by decide)
  rw [ex_gcd] at g1
  have b1 := fun W hW => wBinomial_c 10 3 W hW
  rw [ex_bino] at b1
  have p1 := fun W hW => wPow_c [50] 70 W hW (by decide)
  rw [ex_pow] at p1
  have c1 := fun W => wCheck_c [48, 53] W (by decide)
  rw [show chk [48, 53] = 3 from by decide] at c1
  have c2 := fun W => wCheck_c [45, 48] W (by decide)
  rw [show chk [45, 48] = 3 from by decide] at c2
  have c3 := fun W => wCheck_c [43, 55] W (by decide)
  rw [show chk [43, 55] = 3 from by decide] at c3
  have c4 := fun W => wCheck_c [] W (by decide)
  rw [show chk [] = 3 from by decide] at c4
  have Q1 := Lib.hid q1; have Q2 := Lib.hid q2; have R1 := Lib.hid r1; have R2 := Lib.hid r2; have G1 := Lib.hid g1; have B1 := Lib.hid b1; have P1 := Lib.hid p1
  have C1 := Lib.hid c1; have C2 := Lib.hid c2; have C3 := Lib.hid c3; have C4 := Lib.hid c4
  clear q1 q2 r1 r2 g1 b1 p1 c1 c2 c3 c4 hg
  go_enter Tryz.func9, Tryz.ntmps9
  go_wp2_with fail
  refine wp_loop_rounds 3 ?_
  rw [rounds_succ]
  go_wp2_with fail
  have hB0 : Below w.heap.size w _ := ((Below.refl _ _).alloc (Nat.le_refl _) (.cells #[.string ⟨#[45, 49, 55]⟩, .string ⟨#[53]⟩, .string ⟨#[45, 52]⟩, .string ⟨#[51]⟩, .string ⟨#[49, 55]⟩, .string ⟨#[45, 53]⟩, .string ⟨#[45, 52]⟩, .string ⟨#[45, 51]⟩] 54)).alloc (by simp) (.cells #[.string ⟨#[45, 49, 55]⟩, .string ⟨#[53]⟩, .string ⟨#[45, 52]⟩, .string ⟨#[51]⟩] 54)
  refine (Q1.out _ (HG.out.later hB0)).mono ?_; rintro e w1 ⟨rfl, hb1⟩
  have hB1 := hB0.trans (hb1.mono hB0.size)
  obtain ⟨hc1, -⟩ := bcell hb1
  go_wp2_with fail
  refine (R1.out _ (HG.out.later hB1)).mono ?_; rintro e w2 ⟨rfl, hb2⟩
  have hB2 := hB1.trans (hb2.mono hB1.size)
  obtain ⟨hc2, -⟩ := bcell hb2
  have hs1 := hb1.size
  have hs2 := hb2.size
  simp only [World.alloc, Array.size_push] at hs1
  have z1 : w.heap.size < w1.heap.size := by omega
  have z1' : w.heap.size + 1 < w1.heap.size := by omega
  have z2 : w.heap.size < w2.heap.size := by omega
  clear hs1
  go_wp2_with fail
  rw [rounds_succ]
  go_wp2_with fail
  have hB3 : Below w.heap.size w _ := hB2.alloc hB2.size (.cells #[.string ⟨#[49, 55]⟩, .string ⟨#[45, 53]⟩, .string ⟨#[45, 52]⟩, .string ⟨#[45, 51]⟩] 54)
  refine (Q2.out _ (HG.out.later hB3)).mono ?_; rintro e w3 ⟨rfl, hb3⟩
  have hB4 := hB3.trans (hb3.mono hB3.size)
  obtain ⟨hc3, -⟩ := bcell hb3
  have hs3 := hb3.size
  simp only [World.alloc, Array.size_push] at hs3
  have z3 : w2.heap.size < w3.heap.size := by omega
  go_wp2_with fail
  refine (R2.out _ (HG.out.later hB4)).mono ?_; rintro e w4 ⟨rfl, hb4⟩
  have hB5 := hB4.trans (hb4.mono hB4.size)
  obtain ⟨hc4, -⟩ := bcell hb4
  go_wp2_with fail
  rw [rounds_succ]
  go_wp2_with fail
  clear hc1 hc2 hc3 hc4 z1 z1' z2 z3 hs2 hs3 hb1 hb2 hb3 hb4 hB0 hB1 hB2 hB3 hB4
  refine (G1.out _ (HG.out.later hB5)).mono ?_; rintro e w5 ⟨rfl, hb5⟩
  have hB6 := hB5.trans (hb5.mono hB5.size)
  go_wp2_with fail
  refine (B1.out _ (HG.out.later hB6)).mono ?_; rintro e w6 ⟨rfl, hb6⟩
  have hB7 := hB6.trans (hb6.mono hB6.size)
  go_wp2_with fail
  refine (P1.out _ (HG.out.later hB7)).mono ?_; rintro e w7 ⟨rfl, hb7⟩
  have hB8 := hB7.trans (hb7.mono hB7.size)
  clear hb5 hb6 hb7 hB5 hB6 hB7
  go_wp2_with fail
  refine wp_loop_rounds 5 ?_
  rw [rounds_succ]
  go_wp2_with fail
  have hB9 : Below w.heap.size w _ := hB8.alloc hB8.size (.cells #[.string ⟨#[48, 53]⟩, .string ⟨#[45, 48]⟩, .string ⟨#[43, 55]⟩, .string ⟨#[]⟩] 22)
  refine (C1.out _).mono ?_; rintro e v1 ⟨rfl, hb1⟩
  have hD1 := hB9.trans (hb1.mono hB9.size)
  obtain ⟨hc1, -⟩ := bcell hb1
  have hs1 := hb1.size
  simp only [World.alloc, Array.size_push] at hs1
  have z1 : w7.heap.size < v1.heap.size := by omega
  go_wp2_with fail
  rw [rounds_succ]
  go_wp2_with fail
  refine (C2.out _).mono ?_; rintro e v2 ⟨rfl, hb2⟩
  have hD2 := hD1.trans (hb2.mono hD1.size)
  obtain ⟨hc2, -⟩ := bcell hb2
  have hs2 := hb2.size
  have z2 : w7.heap.size < v2.heap.size := by omega
  go_wp2_with fail
  rw [rounds_succ]
  go_wp2_with fail
  refine (C3.out _).mono ?_; rintro e v3 ⟨rfl, hb3⟩
  have hD3 := hD2.trans (hb3.mono hD2.size)
  obtain ⟨hc3, -⟩ := bcell hb3
  have hs3 := hb3.size
  have z3 : w7.heap.size < v3.heap.size := by omega
  go_wp2_with fail
  rw [rounds_succ]
  go_wp2_with fail
  refine (C4.out _).mono ?_; rintro e v4 ⟨rfl, hb4⟩
  have hD4 := hD3.trans (hb4.mono hD3.size)
  obtain ⟨hc4, -⟩ := bcell hb4
  have hs4 := hb4.size
  have z4 : w7.heap.size < v4.heap.size := by omega
  go_wp2_with fail
  rw [rounds_succ]
  go_wp2
  go_ret
  exact ⟨rfl, hD4⟩
end Go.Proofs.Wk
