/- SQUARENESS: the chapter's examples, walked. -/
import Derived.Test.YtenoganbeccanaaGreatDoorOJ
import Derived.Test.YtenoganbeccanaaGreatDoorSdL
import Derived.Test.YtenoganbeccanaaGreatDoorNA
namespace Go.Proofs.Wk
open Go.RowKit Mt
attribute [local go_sem] Oper.semAt_some

theorem sl3P (W : World) (a b c : St.Pt) (t : TypeId) : SlX (W.alloc (.cells #[.int .i64 a.x, .int .i64 a.y, .int .i64 b.x, .int .i64 b.y, .int .i64 c.x, .int .i64 c.y] t)) (.slice (some ⟨W.heap.size, 0, none⟩) 3 3) [a, b, c] :=
  .inr ⟨W.heap.size, 0, 3, rfl, RX.lit W [a, b, c] t, by simp⟩
theorem sl3S (W : World) (a b c : Or.P3) (t : TypeId) : SlX (W.alloc (.cells #[.int .i64 a.x, .int .i64 a.y, .int .i64 a.z, .int .i64 b.x, .int .i64 b.y, .int .i64 b.z, .int .i64 c.x, .int .i64 c.y, .int .i64 c.z] t)) (.slice (some ⟨W.heap.size, 0, none⟩) 3 3) [a, b, c] :=
  .inr ⟨W.heap.size, 0, 3, rfl, RX.lit W [a, b, c] t, by simp⟩
theorem fl_ok : flatE St.flat3 ⟨1, 0⟩ = 0 := by decide
theorem hi_ok : highE Or.ex3 Or.upZ = 0 := by decide
theorem along_ex : alongV St.flat3 ⟨1, 0⟩ = .tuple #[.string ⟨#[49]⟩, .agg #[.int .i64 0, .int .i64 1], .int .i64 0] := by
  unfold alongV resZ
  rw [if_pos fl_ok, show Or.ends (St.flat3.map (St.crs ⟨1, 0⟩)) = ⟨0, 1, 0, 1⟩ from rfl]
  rw [show rtoa (Rat.divInt (((⟨0, 1, 0, 1⟩ : Or.Ed).high - (⟨0, 1, 0, 1⟩ : Or.Ed).low) * ((⟨0, 1, 0, 1⟩ : Or.Ed).high - (⟨0, 1, 0, 1⟩ : Or.Ed).low)) (St.dot ⟨1, 0⟩ ⟨1, 0⟩)) = [49] by decide +kernel]
  rfl
theorem beside_ex : besideV St.flat3 ⟨1, 0⟩ = .tuple #[.string ⟨#[52, 48, 48]⟩, .agg #[.int .i64 0, .int .i64 2], .int .i64 0] := by
  unfold besideV resZ
  rw [if_pos fl_ok, show Or.ends (St.flat3.map (St.dot ⟨1, 0⟩)) = ⟨0, 20, 0, 2⟩ from rfl]
  rw [show rtoa (Rat.divInt (((⟨0, 20, 0, 2⟩ : Or.Ed).high - (⟨0, 20, 0, 2⟩ : Or.Ed).low) * ((⟨0, 20, 0, 2⟩ : Or.Ed).high - (⟨0, 20, 0, 2⟩ : Or.Ed).low)) (St.dot ⟨1, 0⟩ ⟨1, 0⟩)) = [52, 48, 48] by decide +kernel]
  rfl
theorem parallel_ex : parallelV Or.ex3 Or.upZ = .tuple #[.string ⟨#[56, 49]⟩, .agg #[.int .i64 2, .int .i64 1], .int .i64 0] := by
  unfold parallelV resZ
  rw [if_pos hi_ok, show Or.ends (Or.ex3.map (Or.dot Or.upZ)) = ⟨-2, 7, 2, 1⟩ from rfl]
  rw [show rtoa (Rat.divInt (((⟨-2, 7, 2, 1⟩ : Or.Ed).high - (⟨-2, 7, 2, 1⟩ : Or.Ed).low) * ((⟨-2, 7, 2, 1⟩ : Or.Ed).high - (⟨-2, 7, 2, 1⟩ : Or.Ed).low)) (Or.dot Or.upZ Or.upZ)) = [56, 49] by decide +kernel]
  rfl
theorem up_ex : upV Or.ex3 Or.upZ = .tuple #[.string ⟨#[49, 52, 52, 47, 50, 53]⟩, .agg #[.int .i64 1, .int .i64 2, .int .i64 0], .int .i64 0] := by
  unfold upV uprV
  rw [if_pos hi_ok, Or.ex3_wid, Or.ex3_least]
  rw [show rtoa (Rat.divInt 144 25) = [49, 52, 52, 47, 50, 53] by decide +kernel]
  rfl
theorem ax_ex : axV Or.ex3 Or.upZ = .tuple #[.string ⟨#[50, 53]⟩, .agg #[.int .i64 1, .int .i64 2], .int .i64 0] := by
  unfold axV Or.spN
  rw [if_pos hi_ok, Or.ex3_spread]
  rw [show rtoa (Rat.divInt (if Or.ex3.length = 1 then 0 else (⟨25, 1, 2⟩ : Or.Spr).n) (Or.dot Or.upZ Or.upZ)) = [50, 53] by decide +kernel]
  rfl
theorem wn_ex : wnE Or.ex3 Or.upZ true 3 = (true, 0) := by
  rw [wnE_ok hi_ok (by decide)]
  unfold wnQ
  rw [if_pos rfl, Or.ex3_wid]
  decide +kernel
set_option maxRecDepth 100000 in
set_option maxHeartbeats 8000000 in
theorem awakeO_c (w : World) (hg : Good w) : Calls Tryz.prog 25 #[] w (Ret w (.bool true)) := by
  have HG := Lib.hid hg
  have HAL := Lib.hid (fun v W hg S => by have := Along_c (v := v) St.flat3 ⟨1, 0⟩ W hg S (by decide); rwa [along_ex] at this)
  have HBE := Lib.hid (fun v W hg S => by have := Beside_c (v := v) St.flat3 ⟨1, 0⟩ W hg S (by decide); rwa [beside_ex] at this)
  have HPA := Lib.hid (fun v W hg S => by have := Parallel_c (v := v) Or.ex3 Or.upZ W hg S (by decide); rwa [parallel_ex] at this)
  have HUP := Lib.hid (fun v W hg S => by have := Upright_c (v := v) Or.ex3 Or.upZ W hg S (by decide); rwa [up_ex] at this)
  have HAX := Lib.hid (fun v W hg S => by have := Axis_c (v := v) Or.ex3 Or.upZ W hg S (by decide); rwa [ax_ex] at this)
  have HWI := Lib.hid (fun v W hg S => by have := oWithin_c (v := v) Or.ex3 Or.upZ true 3 W hg S (by decide); rwa [wn_ex] at this)
  clear hg
  go_enter Tryz.func25, Tryz.ntmps25
  go_wp2_with fail
  have s1 := sl3P w ⟨0, 0⟩ ⟨10, 1⟩ ⟨20, 0⟩ 42
  have s2 := sl3S (w.alloc (.cells #[.int .i64 0, .int .i64 0, .int .i64 10, .int .i64 1, .int .i64 20, .int .i64 0] 42)) ⟨0, 0, 0⟩ ⟨4, 0, 7⟩ ⟨0, 3, -2⟩ 52
  simp only at s1 s2
  have b1 := below_al w (.cells #[.int .i64 0, .int .i64 0, .int .i64 10, .int .i64 1, .int .i64 20, .int .i64 0] 42)
  have b2 := below_al (w.alloc (.cells #[.int .i64 0, .int .i64 0, .int .i64 10, .int .i64 1, .int .i64 20, .int .i64 0] 42)) (.cells #[.int .i64 0, .int .i64 0, .int .i64 0, .int .i64 4, .int .i64 0, .int .i64 7, .int .i64 0, .int .i64 3, .int .i64 (-2)] 52)
  have b3 := below_al ((w.alloc (.cells #[.int .i64 0, .int .i64 0, .int .i64 10, .int .i64 1, .int .i64 20, .int .i64 0] 42)).alloc (.cells #[.int .i64 0, .int .i64 0, .int .i64 0, .int .i64 4, .int .i64 0, .int .i64 7, .int .i64 0, .int .i64 3, .int .i64 (-2)] 52)) (.cells #[.int .i64 0, .int .i64 0, .int .i64 1] 52)
  replace s1 := (s1.later b2).later b3
  replace s2 := s2.later b3
  have hu := heap_alloc_new ((w.alloc (.cells #[.int .i64 0, .int .i64 0, .int .i64 10, .int .i64 1, .int .i64 20, .int .i64 0] 42)).alloc (.cells #[.int .i64 0, .int .i64 0, .int .i64 0, .int .i64 4, .int .i64 0, .int .i64 7, .int .i64 0, .int .i64 3, .int .i64 (-2)] 52)) (.cells #[.int .i64 0, .int .i64 0, .int .i64 1] 52)
  have B3 := (b1.nx b2).nx b3
  have e1 : ((w.alloc (.cells #[.int .i64 0, .int .i64 0, .int .i64 10, .int .i64 1, .int .i64 20, .int .i64 0] 42)).alloc (.cells #[.int .i64 0, .int .i64 0, .int .i64 0, .int .i64 4, .int .i64 0, .int .i64 7, .int .i64 0, .int .i64 3, .int .i64 (-2)] 52)).heap.size = w.heap.size + 1 + 1 := by rw [World.size_alloc, World.size_alloc]
  have e2 : (w.alloc (.cells #[.int .i64 0, .int .i64 0, .int .i64 10, .int .i64 1, .int .i64 20, .int .i64 0] 42)).heap.size = w.heap.size + 1 := World.size_alloc _ _
  rw [e1] at hu
  rw [e2] at s2
  clear b1 b2 b3 e1 e2
  generalize ((w.alloc (.cells #[.int .i64 0, .int .i64 0, .int .i64 10, .int .i64 1, .int .i64 20, .int .i64 0] 42)).alloc (.cells #[.int .i64 0, .int .i64 0, .int .i64 0, .int .i64 4, .int .i64 0, .int .i64 7, .int .i64 0, .int .i64 3, .int .i64 (-2)] 52)).alloc (.cells #[.int .i64 0, .int .i64 0, .int .i64 1] 52) = w0 at *
  ((with_reducible refine (HAL.out _ _ (HG.out.later B3) s1).mono ?_); rintro e v1 ⟨rfl, q1⟩)
  replace hu := keepD hu q1
  replace s2 := s2.later q1
  replace s1 := s1.later q1
  have C1 := B3.nx q1
  have a1 := below_al v1 (.cells #[.int .i64 0, .int .i64 1] 44)
  replace hu := keepD hu a1
  replace s2 := s2.later a1
  replace s1 := s1.later a1
  have h1 := heap_alloc_new v1 (.cells #[.int .i64 0, .int .i64 1] 44)
  have D1 := C1.nx a1
  clear q1 a1 C1 B3
  go_wp2_with fail
  generalize v1.alloc (.cells #[.int .i64 0, .int .i64 1] 44) = x1 at *
  generalize v1.heap.size = y1 at *
  ((with_reducible refine (HBE.out _ _ (HG.out.later D1) s1).mono ?_); rintro e v2 ⟨rfl, q2⟩)
  replace hu := keepD hu q2
  replace h1 := keepD h1 q2
  replace s2 := s2.later q2
  clear s1
  have C2 := D1.nx q2
  have a2 := below_al v2 (.cells #[.int .i64 0, .int .i64 2] 44)
  replace hu := keepD hu a2
  replace h1 := keepD h1 a2
  replace s2 := s2.later a2
  have h2 := heap_alloc_new v2 (.cells #[.int .i64 0, .int .i64 2] 44)
  have D2 := C2.nx a2
  clear q2 a2 C2 D1
  go_upto_region 5 with fail
  generalize v2.alloc (.cells #[.int .i64 0, .int .i64 2] 44) = x2 at *
  generalize v2.heap.size = y2 at *
  obtain ⟨u0, u1, u2⟩ := c3row hu
  go_wp2_with fail
  ((with_reducible refine (HPA.out _ _ (HG.out.later D2) s2).mono ?_); rintro e v3 ⟨rfl, q3⟩)
  clear u0 u1 u2
  replace hu := keepD hu q3
  replace h1 := keepD h1 q3
  replace h2 := keepD h2 q3
  replace s2 := s2.later q3
  have C3 := D2.nx q3
  have a3 := below_al v3 (.cells #[.int .i64 2, .int .i64 1] 44)
  replace hu := keepD hu a3
  replace h1 := keepD h1 a3
  replace h2 := keepD h2 a3
  replace s2 := s2.later a3
  have h3 := heap_alloc_new v3 (.cells #[.int .i64 2, .int .i64 1] 44)
  have D3 := C3.nx a3
  clear q3 a3 C3 D2
  go_upto_region 6 with fail
  generalize v3.alloc (.cells #[.int .i64 2, .int .i64 1] 44) = x3 at *
  generalize v3.heap.size = y3 at *
  obtain ⟨u0, u1, u2⟩ := c3row hu
  go_wp2_with fail
  ((with_reducible refine (HUP.out _ _ (HG.out.later D3) s2).mono ?_); rintro e v4 ⟨rfl, q4⟩)
  clear u0 u1 u2
  replace hu := keepD hu q4
  replace h1 := keepD h1 q4
  replace h2 := keepD h2 q4
  replace h3 := keepD h3 q4
  replace s2 := s2.later q4
  have C4 := D3.nx q4
  have a4 := below_al v4 (.cells #[.int .i64 1, .int .i64 2, .int .i64 0] 57)
  replace hu := keepD hu a4
  replace h1 := keepD h1 a4
  replace h2 := keepD h2 a4
  replace h3 := keepD h3 a4
  replace s2 := s2.later a4
  have h4 := heap_alloc_new v4 (.cells #[.int .i64 1, .int .i64 2, .int .i64 0] 57)
  have D4 := C4.nx a4
  clear q4 a4 C4 D3
  go_upto_region 7 with fail
  generalize v4.alloc (.cells #[.int .i64 1, .int .i64 2, .int .i64 0] 57) = x4 at *
  generalize v4.heap.size = y4 at *
  obtain ⟨u0, u1, u2⟩ := c3row hu
  go_wp2_with fail
  ((with_reducible refine (HAX.out _ _ (HG.out.later D4) s2).mono ?_); rintro e v5 ⟨rfl, q5⟩)
  clear u0 u1 u2
  replace hu := keepD hu q5
  replace h1 := keepD h1 q5
  replace h2 := keepD h2 q5
  replace h3 := keepD h3 q5
  replace h4 := keepD h4 q5
  replace s2 := s2.later q5
  have C5 := D4.nx q5
  have a5 := below_al v5 (.cells #[.int .i64 1, .int .i64 2] 44)
  replace hu := keepD hu a5
  replace h1 := keepD h1 a5
  replace h2 := keepD h2 a5
  replace h3 := keepD h3 a5
  replace h4 := keepD h4 a5
  replace s2 := s2.later a5
  have h5 := heap_alloc_new v5 (.cells #[.int .i64 1, .int .i64 2] 44)
  have D5 := C5.nx a5
  clear q5 a5 C5 D4
  go_upto_region 8 with fail
  generalize v5.alloc (.cells #[.int .i64 1, .int .i64 2] 44) = x5 at *
  generalize v5.heap.size = y5 at *
  obtain ⟨u0, u1, u2⟩ := c3row hu
  go_wp2_with fail
  ((with_reducible refine (HWI.out _ _ (HG.out.later D5) s2).mono ?_); rintro e v6 ⟨rfl, q6⟩)
  clear u0 u1 u2
  replace hu := keepD hu q6
  replace h1 := keepD h1 q6
  replace h2 := keepD h2 q6
  replace h3 := keepD h3 q6
  replace h4 := keepD h4 q6
  replace h5 := keepD h5 q6
  replace s2 := s2.later q6
  have C6 := D5.nx q6
  obtain ⟨h1_0, h1_1⟩ := c2row h1
  obtain ⟨h2_0, h2_1⟩ := c2row h2
  obtain ⟨h3_0, h3_1⟩ := c2row h3
  obtain ⟨h4_0, h4_1, h4_2⟩ := c3row h4
  obtain ⟨h5_0, h5_1⟩ := c2row h5
  have ae := fun (a b c d : Int) W => ar2_eql a b c d W
  have af := fun (a b c d e f : Int) W => ar3_eql a b c d e f W
  clear s2 hu
  go_wp2
  go_ret
  exact ⟨rfl, C6⟩
end Go.Proofs.Wk
