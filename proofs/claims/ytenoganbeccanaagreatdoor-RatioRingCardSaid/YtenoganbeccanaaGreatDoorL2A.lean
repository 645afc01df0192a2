/- THE EXAMPLES OF CHAPTER 02: the law's 'awake'. -/
import Derived.Test.YtenoganbeccanaaGreatDoorRtK
import Derived.Test.YtenoganbeccanaaGreatDoorRqH
namespace Go.Proofs.Wk
open Go.RowKit Mt

theorem lit_add {a b c : Txt} (ha : rchk a = 0) (hb : rchk b = 0) (hc : rchk c = 0) (hl : a.length + b.length ≤ 100) (h : rv a + rv b = rv c) : rbin [] addQ a b = (c, 0) := by
  rw [lit2 [] addQ ha hb, addQ_sz (rpart_len a ha) (rpart_len b hb) (by omega), h, rtoa_rv hc]
theorem lit_sub {a b c : Txt} (ha : rchk a = 0) (hb : rchk b = 0) (hc : rchk c = 0) (hl : a.length + b.length ≤ 100) (h : rv a - rv b = rv c) : rbin [] subQ a b = (c, 0) := by
  rw [lit2 [] subQ ha hb, subQ_sz (rpart_len a ha) (rpart_len b hb) (by omega), h, rtoa_rv hc]
theorem lit_mul {a b c : Txt} (ha : rchk a = 0) (hb : rchk b = 0) (hc : rchk c = 0) (hl : a.length + b.length ≤ 100) (h : rv a * rv b = rv c) : rbin [] mulQ a b = (c, 0) := by
  rw [lit2 [] mulQ ha hb, mulQ_sz (rpart_len a ha) (rpart_len b hb) (by omega), h, rtoa_rv hc]
theorem lit_div {a b c : Txt} (ha : rchk a = 0) (hb : rchk b = 0) (hc : rchk c = 0) (hl : a.length + b.length ≤ 100) (h0 : rv b ≠ 0) (h : rv a / rv b = rv c) : rbin [] divQ a b = (c, 0) := by
  rw [lit2 [] divQ ha hb, divQ_sz (rpart_len a ha) (rpart_len b hb) (by omega) h0, h, rtoa_rv hc]
theorem rootsQ_zero (a b c : Rat) : rootsQ a b c 0 0 = rootQ a b c := by
  unfold rootsQ
  rw [show sgnQ 0 = 0 from sgn_zero, Int.zero_mul, Int.mul_zero, if_pos (by omega)]
  split
  · rename_i h; exact h.symm
  · rfl
set_option maxRecDepth 100000 in
theorem qSignRoot_ok (a b c : Rat) (w : World) (hg : Good w) (ha : szQ a 30) (hb : szQ b 30) (hc : szQ c 30) :
    Calls Tryz.prog 65 #[.string ⟨(rtoa a).toArray⟩, .string ⟨(rtoa b).toArray⟩, .string ⟨(rtoa c).toArray⟩] w (Ret w (int2 (if c < 0 then (0, 2) else (rootQ a b c, 0)))) := by
  have hs := fun W hW => qSignRoots_ok a b c 0 0 W hW ha hb hc (szQ_zero.mono (by omega)) (szQ_zero.mono (by omega))
  have e : (if c < 0 ∨ (0 : Rat) < 0 then ((0 : Int), (2 : Int)) else (rootQ a b c, 0)) = if c < 0 then (0, 2) else (rootQ a b c, 0) := by
    by_cases h : c < 0 <;> simp [h, Rat.lt_irrefl]
  rw [rtoa_zero, rootsQ_zero, e] at hs
  have HS := Lib.hid hs
  have HG := Lib.hid hg
  have hB0 := Below.refl w.heap.size w
  clear hs ha hb hc hg e
  generalize (if c < 0 then ((0 : Int), (2 : Int)) else (rootQ a b c, 0)) = r at *
  generalize rtoa a = ta at *
  generalize rtoa b = tb at *
  generalize rtoa c = tc at *
  go_enter Tryz.func65, Tryz.ntmps65
  go_wp2_with fail
  ((with_reducible refine (HS.out _ (HG.out.later hB0)).mono ?_); rintro e w1 ⟨rfl, hb1⟩)
  have hB1 := hB0.trans (hb1.mono hB0.size); clear hb1
  go_wp2
  go_ret2
  exact ⟨rfl, hB1⟩
theorem firstR_app {ls : List Txt} (ms : List Txt) (h : firstR ms = 0) : firstR (ls ++ ms) = firstR ls := by
  induction ls with
  | nil => exact h
  | cons a t ih =>
    show (if rchk a = 0 then firstR (t ++ ms) else rchk a) = _
    rw [ih]; rfl
set_option maxRecDepth 100000 in
theorem qSignRoot_err (a b c : Txt) (w : World) (hg : Good w) (hl : ∀ l ∈ [a, b, c], l.length ≤ 140737488355328) (h : firstR [a, b, c] ≠ 0) :
    Calls Tryz.prog 65 #[.string ⟨a.toArray⟩, .string ⟨b.toArray⟩, .string ⟨c.toArray⟩] w (Ret w (int2 (0, firstR [a, b, c]))) := by
  have e : firstR [a, b, c, [48], [48]] = firstR [a, b, c] := firstR_app (ls := [a, b, c]) [[48], [48]] (by decide)
  have hs := fun W hW => qSignRoots_err a b c [48] [48] W hW (by
    intro l hl2
    simp only [List.mem_cons, List.not_mem_nil, or_false] at hl2
    rcases hl2 with rfl | rfl | rfl | rfl | rfl
    · exact hl _ (by simp)
    · exact hl _ (by simp)
    · exact hl _ (by simp)
    · decide
    · decide) (by rw [e]; exact h)
  rw [e] at hs
  have HS := Lib.hid hs
  have HG := Lib.hid hg
  have hB0 := Below.refl w.heap.size w
  clear hs e hl h hg
  generalize firstR [a, b, c] = r at *
  go_enter Tryz.func65, Tryz.ntmps65
  go_wp2_with fail
  ((with_reducible refine (HS.out _ (HG.out.later hB0)).mono ?_); rintro e w1 ⟨rfl, hb1⟩)
  have hB1 := hB0.trans (hb1.mono hB0.size); clear hb1
  go_wp2
  go_ret2
  exact ⟨rfl, hB1⟩
set_option maxRecDepth 100000 in
set_option maxHeartbeats 4000000 in
theorem awake2_c (w : World) (hg : Good w) : Calls Tryz.prog 13 #[] w (Ret w (.bool true)) := by
  have HG := Lib.hid hg
  have hB0 := Below.refl w.heap.size w
  have a1 := fun W hW => qAdd_c [49, 47, 49, 52] [49, 47, 50, 49] W hW (by decide) (by decide)
  rw [lit_add (c := [53, 47, 52, 50]) (by decide +kernel) (by decide +kernel) (by decide +kernel) (by decide) (by decide +kernel)] at a1
  have a2 := fun W hW => qSub_c [49, 47, 49, 52] [49, 47, 50, 49] W hW (by decide) (by decide)
  rw [lit_sub (c := [49, 47, 52, 50]) (by decide +kernel) (by decide +kernel) (by decide +kernel) (by decide) (by decide +kernel)] at a2
  have a3 := fun W hW => qMul_c [51, 47, 53] [50, 53, 47, 54] W hW (by decide) (by decide)
  rw [lit_mul (c := [53, 47, 50]) (by decide +kernel) (by decide +kernel) (by decide +kernel) (by decide) (by decide +kernel)] at a3
  have a4 := fun W hW => qDiv_c [51, 47, 53] [45, 57, 47, 49, 48] W hW (by decide) (by decide)
  rw [lit_div (c := [45, 50, 47, 51]) (by decide +kernel) (by decide +kernel) (by decide +kernel) (by decide) (by decide +kernel) (by decide +kernel)] at a4
  have a5 := fun W hW => qFloor_c [45, 50, 47, 51] W hW (by decide)
  rw [lit1 [] floorQ (by decide +kernel), show floorQ (rv [45, 50, 47, 51]) = ([45, 49], 0) by
    unfold floorQ
    rw [show (rv [45, 50, 47, 51]).num.fdiv (rv [45, 50, 47, 51]).den = -1 by decide +kernel, itoa_is (l := [45, 49]) (by decide) (by decide)]] at a5
  have a6 := fun W hW => qSignRoot_ok (rv [51]) (rv [45, 50]) (rv [50]) W hW ((rpart_len _ (by decide +kernel)).mono (by decide)) ((rpart_len _ (by decide +kernel)).mono (by decide)) ((rpart_len _ (by decide +kernel)).mono (by decide))
  rw [rtoa_rv (l := [51]) (by decide +kernel), rtoa_rv (l := [45, 50]) (by decide +kernel), rtoa_rv (l := [50]) (by decide +kernel), if_neg (by decide +kernel), show rootQ (rv [51]) (rv [45, 50]) (rv [50]) = 1 by decide +kernel] at a6
  have a7 := fun W hW => qSignRoots_ok (rv [49]) (rv [49]) (rv [50]) (rv [45, 49]) (rv [54]) W hW ((rpart_len _ (by decide +kernel)).mono (by decide)) ((rpart_len _ (by decide +kernel)).mono (by decide)) ((rpart_len _ (by decide +kernel)).mono (by decide)) ((rpart_len _ (by decide +kernel)).mono (by decide)) ((rpart_len _ (by decide +kernel)).mono (by decide))
  rw [rtoa_rv (l := [49]) (by decide +kernel), rtoa_rv (l := [50]) (by decide +kernel), rtoa_rv (l := [45, 49]) (by decide +kernel), rtoa_rv (l := [54]) (by decide +kernel), if_neg (by decide +kernel), show rootsQ (rv [49]) (rv [49]) (rv [50]) (rv [45, 49]) (rv [54]) = -1 by decide +kernel] at a7
  have a8 := fun W hW => qCheck_c [54, 47, 52] W hW (by decide)
  rw [show rchk [54, 47, 52] = 3 by decide +kernel] at a8
  have a9 := fun W hW => qWhole_c 7 W hW (by omega) (by omega)
  rw [itoa_is (l := [55]) (by decide) (by decide)] at a9
  have A1 := Lib.hid a1; have A2 := Lib.hid a2; have A3 := Lib.hid a3; have A4 := Lib.hid a4; have A5 := Lib.hid a5; have A6 := Lib.hid a6; have A7 := Lib.hid a7; have A8 := Lib.hid a8; have A9 := Lib.hid a9
  clear a1 a2 a3 a4 a5 a6 a7 a8 a9 hg
  go_enter Tryz.func13, Tryz.ntmps13
  go_wp2_with fail
  ((with_reducible refine (A1.out _ (HG.out.later hB0)).mono ?_); rintro e w1 ⟨rfl, hb1⟩)
  have hB1 := hB0.trans (hb1.mono hB0.size); clear hb1
  go_wp2_with fail
  ((with_reducible refine (A2.out _ (HG.out.later hB1)).mono ?_); rintro e w2 ⟨rfl, hb2⟩)
  have hB2 := hB1.trans (hb2.mono hB1.size); clear hb2
  go_wp2_with fail
  ((with_reducible refine (A3.out _ (HG.out.later hB2)).mono ?_); rintro e w3 ⟨rfl, hb3⟩)
  have hB3 := hB2.trans (hb3.mono hB2.size); clear hb3
  go_wp2_with fail
  ((with_reducible refine (A4.out _ (HG.out.later hB3)).mono ?_); rintro e w4 ⟨rfl, hb4⟩)
  have hB4 := hB3.trans (hb4.mono hB3.size); clear hb4
  go_wp2_with fail
  ((with_reducible refine (A5.out _ (HG.out.later hB4)).mono ?_); rintro e w5 ⟨rfl, hb5⟩)
  have hB5 := hB4.trans (hb5.mono hB4.size); clear hb5
  go_wp2_with fail
  ((with_reducible refine (A6.out _ (HG.out.later hB5)).mono ?_); rintro e w6 ⟨rfl, hb6⟩)
  have hB6 := hB5.trans (hb6.mono hB5.size); clear hb6
  go_wp2_with fail
  ((with_reducible refine (A7.out _ (HG.out.later hB6)).mono ?_); rintro e w7 ⟨rfl, hb7⟩)
  have hB7 := hB6.trans (hb7.mono hB6.size); clear hb7
  go_wp2_with fail
  ((with_reducible refine (A8.out _ (HG.out.later hB7)).mono ?_); rintro e w8 ⟨rfl, hb8⟩)
  have hB8 := hB7.trans (hb8.mono hB7.size); clear hb8
  go_wp2_with fail
  ((with_reducible refine (A9.out _ (HG.out.later hB8)).mono ?_); rintro e w9 ⟨rfl, hb9⟩)
  have hB9 := hB8.trans (hb9.mono hB8.size); clear hb9
  go_wp2
  go_ret
  exact ⟨rfl, hB9⟩
end Go.Proofs.Wk
