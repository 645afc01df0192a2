/- SQUARENESS: the laws of zones along and beside, and of parallel zones and spreads, walked. -/
import Derived.Test.YtenoganbeccanaaGreatDoorOK
namespace Go.Proofs.Wk
open Go.RowKit Mt

def fewN (k n : Nat) : Bool := decide (n ≤ k) || (decide (64 < n) && decide (n < 128))
set_option maxRecDepth 100000 in
set_option maxHeartbeats 1000000 in
theorem fewP_c {v : Value} (ls : List St.Pt) (w : World) (S : SlX w v ls) (hln : ls.length ≤ 140737488355328) : Calls Tryz.prog 24 #[v] w (Pur w (.bool (fewN 8 ls.length))) := by
  obtain ⟨sa, cap, rfl⟩ := S.len
  clear S
  generalize ls.length = n at *
  unfold fewN
  by_cases h1 : n ≤ 8
  · rw [decide_eq_true h1]
    have z : (n : Int) ≤ 8 := by omega
    go_enter Tryz.func24, Tryz.ntmps24
    go_wp2
    go_ret
    exact ⟨ret_bool (by simp), rfl⟩
  · rw [decide_eq_false h1]
    have z : ¬ (n : Int) ≤ 8 := by omega
    by_cases h2 : 64 < n
    · have z2 : (64 : Int) < (n : Int) := by omega
      rw [decide_eq_true h2]
      clear h1 h2
      by_cases h3 : n < 128
      · have z3 : (n : Int) < 128 := by omega
        rw [decide_eq_true h3]
        clear h3
        go_enter Tryz.func24, Tryz.ntmps24
        go_wp2
        go_ret
        exact ⟨ret_bool (by simp), rfl⟩
      · have z3 : ¬ (n : Int) < 128 := by omega
        rw [decide_eq_false h3]
        clear h3
        go_enter Tryz.func24, Tryz.ntmps24
        go_wp2
        go_ret
        exact ⟨ret_bool (by simp), rfl⟩
    · have z2 : ¬ (64 : Int) < (n : Int) := by omega
      rw [decide_eq_false h2]
      clear h1 h2
      go_enter Tryz.func24, Tryz.ntmps24
      go_wp2
      go_ret
      exact ⟨ret_bool (by simp), rfl⟩
set_option maxRecDepth 100000 in
set_option maxHeartbeats 1000000 in
theorem fewS_c {v : Value} (ls : List Or.P3) (w : World) (S : SlX w v ls) (hln : ls.length ≤ 140737488355328) : Calls Tryz.prog 30 #[v] w (Pur w (.bool (fewN 6 ls.length))) := by
  obtain ⟨sa, cap, rfl⟩ := S.lenS
  clear S
  generalize ls.length = n at *
  unfold fewN
  by_cases h1 : n ≤ 6
  · rw [decide_eq_true h1]
    have z : (n : Int) ≤ 6 := by omega
    go_enter Tryz.func30, Tryz.ntmps30
    go_wp2
    go_ret
    exact ⟨ret_bool (by simp), rfl⟩
  · rw [decide_eq_false h1]
    have z : ¬ (n : Int) ≤ 6 := by omega
    by_cases h2 : 64 < n
    · have z2 : (64 : Int) < (n : Int) := by omega
      rw [decide_eq_true h2]
      clear h1 h2
      by_cases h3 : n < 128
      · have z3 : (n : Int) < 128 := by omega
        rw [decide_eq_true h3]
        clear h3
        go_enter Tryz.func30, Tryz.ntmps30
        go_wp2
        go_ret
        exact ⟨ret_bool (by simp), rfl⟩
      · have z3 : ¬ (n : Int) < 128 := by omega
        rw [decide_eq_false h3]
        clear h3
        go_enter Tryz.func30, Tryz.ntmps30
        go_wp2
        go_ret
        exact ⟨ret_bool (by simp), rfl⟩
    · have z2 : ¬ (64 : Int) < (n : Int) := by omega
      rw [decide_eq_false h2]
      clear h1 h2
      go_enter Tryz.func30, Tryz.ntmps30
      go_wp2
      go_ret
      exact ⟨ret_bool (by simp), rfl⟩
theorem ar3_neq (a b e c d f : Int) (w : World) : (binOp .neq 57 (.agg #[.int .i64 a, .int .i64 b, .int .i64 e]) (.agg #[.int .i64 c, .int .i64 d, .int .i64 f])).run Tryz.prog w = .ok (.bool (!(a == c && (b == d && e == f)))) w := by
  rw [run_neq_struct, ar3O]; rfl
theorem axV_form (ls : List Or.P3) (d : Or.P3) : ∃ (A : Txt) (i j : Nat) (E : Int), axV ls d = .tuple #[.string ⟨A.toArray⟩, .agg #[.int .i64 (i : Int), .int .i64 (j : Int)], .int .i64 E] := by
  unfold axV
  by_cases h : highE ls d = 0
  · rw [if_pos h]; exact ⟨_, _, _, _, rfl⟩
  · rw [if_neg h]; exact ⟨[], 0, 0, _, rfl⟩
theorem upV_form (ls : List Or.P3) (d : Or.P3) : ∃ (A : Txt) (i j k : Nat) (E : Int), upV ls d = .tuple #[.string ⟨A.toArray⟩, .agg #[.int .i64 (i : Int), .int .i64 (j : Int), .int .i64 (k : Int)], .int .i64 E] := by
  unfold upV uprV
  by_cases h : highE ls d = 0
  · rw [if_pos h]; exact ⟨_, _, _, _, _, rfl⟩
  · rw [if_neg h]; exact ⟨[], 0, 0, 0, _, rfl⟩
set_option maxRecDepth 100000 in
set_option maxHeartbeats 4000000 in
theorem lines_law {v : Value} (ls : List St.Pt) (d : St.Pt) (w : World) (hg : Good w) (S : SlX w v ls) (hln : ls.length ≤ 140737488355328) : Calls Tryz.prog 4 #[v, ptV d] w (Ret w (.bool true)) := by
  have HFW := Lib.hid (fun W (h : Below w.heap.size w W) => fewP_c ls W (S.later h) hln)
  have HAW := Lib.hid (fun W (h : Below w.heap.size w W) => awakeO_c W (hg.later h))
  have H1 := Lib.hid (fun W (h : Below w.heap.size w W) => Along_c ls d W (hg.later h) (S.later h) hln)
  have H2 := Lib.hid (fun W (h : Below w.heap.size w W) => rAlong_c ls d W (S.later h) hln)
  have H3 := Lib.hid (fun W (h : Below w.heap.size w W) => Beside_c ls d W (hg.later h) (S.later h) hln)
  have H4 := Lib.hid (fun W (h : Below w.heap.size w W) => rBeside_c ls d W (S.later h) hln)
  obtain ⟨A1, i1, j1, hA1⟩ := resZ_form (flatE ls d) (Or.ends (ls.map (St.crs d))) (St.dot d d)
  obtain ⟨A2, i2, j2, hA2⟩ := resZ_form (flatE ls d) (Or.ends (ls.map (St.dot d))) (St.dot d d)
  unfold alongV at H1 H2
  unfold besideV at H3 H4
  rw [hA1] at H1 H2
  rw [hA2] at H3 H4
  generalize flatE ls d = E at *
  clear hA1 hA2
  have hu := heap_alloc_new w (.cells #[.int .i64 d.x, .int .i64 d.y] 42)
  have B0 := below_al w (.cells #[.int .i64 d.x, .int .i64 d.y] 42)
  generalize fewN 8 ls.length = q at *
  obtain ⟨sa, cap, rfl⟩ := S.len
  obtain ⟨dx, dy⟩ := d
  simp only at hu B0
  clear S hg hln
  have ae := fun (a b c d : Int) W => ar2_eql a b c d W
  go_enter Tryz.func4, Tryz.ntmps4
  go_wp2_with fail
  generalize w.alloc (.cells #[.int .i64 dx, .int .i64 dy] 42) = W at *
  ((with_reducible refine (HFW.out _ B0).mono ?_); rintro e w1 ⟨rfl, rfl⟩)
  cases q with
  | false =>
    go_wp2_with fail
    ((with_reducible refine (HAW.out _ B0).mono ?_); rintro e w2 ⟨rfl, hb2⟩)
    have hB := B0.nx hb2
    clear hu
    go_wp2
    go_ret
    exact ⟨rfl, hB⟩
  | true =>
    obtain ⟨u0, u1⟩ := c2row hu
    go_wp2_with fail
    ((with_reducible refine (H1.out _ B0).mono ?_); rintro e v1 ⟨rfl, q1⟩)
    clear u0 u1
    have a1 := below_al v1 (.cells #[.int .i64 (i1 : Int), .int .i64 (j1 : Int)] 44)
    replace hu := keepD (keepD hu q1) a1
    have h1 := heap_alloc_new v1 (.cells #[.int .i64 (i1 : Int), .int .i64 (j1 : Int)] 44)
    have D1 := (B0.nx q1).nx a1
    clear q1 a1 B0
    go_upto_region 4 with fail
    generalize v1.alloc (.cells #[.int .i64 (i1 : Int), .int .i64 (j1 : Int)] 44) = x1 at *
    generalize v1.heap.size = y1 at *
    obtain ⟨u0, u1⟩ := c2row hu
    go_wp2_with fail
    ((with_reducible refine (H2.out _ D1).mono ?_); rintro e v2 ⟨rfl, q2⟩)
    clear u0 u1
    have a2 := below_al v2 (.cells #[.int .i64 (i1 : Int), .int .i64 (j1 : Int)] 44)
    replace hu := keepD (keepD hu q2) a2
    replace h1 := keepD (keepD h1 q2) a2
    have h2 := heap_alloc_new v2 (.cells #[.int .i64 (i1 : Int), .int .i64 (j1 : Int)] 44)
    have D2 := (D1.nx q2).nx a2
    clear q2 a2 D1
    go_upto_region 5 with fail
    generalize v2.alloc (.cells #[.int .i64 (i1 : Int), .int .i64 (j1 : Int)] 44) = x2 at *
    generalize v2.heap.size = y2 at *
    obtain ⟨u0, u1⟩ := c2row hu
    go_wp2_with fail
    ((with_reducible refine (H3.out _ D2).mono ?_); rintro e v3 ⟨rfl, q3⟩)
    clear u0 u1
    have a3 := below_al v3 (.cells #[.int .i64 (i2 : Int), .int .i64 (j2 : Int)] 44)
    replace hu := keepD (keepD hu q3) a3
    replace h1 := keepD (keepD h1 q3) a3
    replace h2 := keepD (keepD h2 q3) a3
    have h3 := heap_alloc_new v3 (.cells #[.int .i64 (i2 : Int), .int .i64 (j2 : Int)] 44)
    have D3 := (D2.nx q3).nx a3
    clear q3 a3 D2
    go_upto_region 6 with fail
    generalize v3.alloc (.cells #[.int .i64 (i2 : Int), .int .i64 (j2 : Int)] 44) = x3 at *
    generalize v3.heap.size = y3 at *
    obtain ⟨u0, u1⟩ := c2row hu
    go_wp2_with fail
    ((with_reducible refine (H4.out _ D3).mono ?_); rintro e v4 ⟨rfl, q4⟩)
    clear u0 u1
    have a4 := below_al v4 (.cells #[.int .i64 (i2 : Int), .int .i64 (j2 : Int)] 44)
    replace hu := keepD (keepD hu q4) a4
    replace h1 := keepD (keepD h1 q4) a4
    replace h2 := keepD (keepD h2 q4) a4
    replace h3 := keepD (keepD h3 q4) a4
    have h4 := heap_alloc_new v4 (.cells #[.int .i64 (i2 : Int), .int .i64 (j2 : Int)] 44)
    have D4 := (D3.nx q4).nx a4
    clear q4 a4 D3
    go_upto_region 7 with fail
    generalize v4.alloc (.cells #[.int .i64 (i2 : Int), .int .i64 (j2 : Int)] 44) = x4 at *
    generalize v4.heap.size = y4 at *
    go_wp2_with fail
    ((with_reducible refine (HAW.out _ D4).mono ?_); rintro e w9 ⟨rfl, q9⟩)
    have D9 := D4.nx q9
    obtain ⟨e1, e2⟩ := c2row (keepD h1 q9)
    obtain ⟨e3, e4⟩ := c2row (keepD h2 q9)
    obtain ⟨e5, e6⟩ := c2row (keepD h3 q9)
    obtain ⟨e7, e8⟩ := c2row (keepD h4 q9)
    clear h1 h2 h3 h4 hu q9 D4
    go_wp2
    go_ret
    exact ⟨ret_bool (by simp), D9⟩
set_option maxRecDepth 100000 in
set_option maxHeartbeats 4000000 in
theorem planes_law {v : Value} (ls : List Or.P3) (d : Or.P3) (w : World) (hg : Good w) (S : SlX w v ls) (hln : ls.length ≤ 140737488355328) : Calls Tryz.prog 5 #[v, spV d] w (Ret w (.bool true)) := by
  have HFW := Lib.hid (fun W (h : Below w.heap.size w W) => fewS_c ls W (S.later h) hln)
  have HAW := Lib.hid (fun W (h : Below w.heap.size w W) => awakeO_c W (hg.later h))
  have H1 := Lib.hid (fun W (h : Below w.heap.size w W) => Parallel_c ls d W (hg.later h) (S.later h) hln)
  have H2 := Lib.hid (fun W (h : Below w.heap.size w W) => rParallel_c ls d W (S.later h) hln)
  have H3 := Lib.hid (fun W (h : Below w.heap.size w W) => Axis_c ls d W (hg.later h) (S.later h) hln)
  have H4 := Lib.hid (fun W (h : Below w.heap.size w W) => rAxis_c ls d W (S.later h) hln)
  obtain ⟨A1, i1, j1, hA1⟩ := resZ_form (highE ls d) (Or.ends (ls.map (Or.dot d))) (Or.dot d d)
  obtain ⟨A2, i2, j2, E2, hA2⟩ := axV_form ls d
  unfold parallelV at H1 H2
  rw [hA1] at H1 H2
  rw [hA2] at H3 H4
  generalize highE ls d = E at *
  clear hA1 hA2
  have hu := heap_alloc_new w (.cells #[.int .i64 d.x, .int .i64 d.y, .int .i64 d.z] 52)
  have B0 := below_al w (.cells #[.int .i64 d.x, .int .i64 d.y, .int .i64 d.z] 52)
  generalize fewN 6 ls.length = q at *
  obtain ⟨sa, cap, rfl⟩ := S.lenS
  obtain ⟨dx, dy, dz⟩ := d
  simp only at hu B0
  clear S hg hln
  have ae := fun (a b c d : Int) W => ar2_eql a b c d W
  go_enter Tryz.func5, Tryz.ntmps5
  go_wp2_with fail
  generalize w.alloc (.cells #[.int .i64 dx, .int .i64 dy, .int .i64 dz] 52) = W at *
  ((with_reducible refine (HFW.out _ B0).mono ?_); rintro e w1 ⟨rfl, rfl⟩)
  cases q with
  | false =>
    go_wp2_with fail
    ((with_reducible refine (HAW.out _ B0).mono ?_); rintro e w2 ⟨rfl, hb2⟩)
    have hB := B0.nx hb2
    clear hu
    go_wp2
    go_ret
    exact ⟨rfl, hB⟩
  | true =>
    obtain ⟨u0, u1, u2⟩ := c3row hu
    go_wp2_with fail
    ((with_reducible refine (H1.out _ B0).mono ?_); rintro e v1 ⟨rfl, q1⟩)
    clear u0 u1 u2
    have a1 := below_al v1 (.cells #[.int .i64 (i1 : Int), .int .i64 (j1 : Int)] 44)
    replace hu := keepD (keepD hu q1) a1
    have h1 := heap_alloc_new v1 (.cells #[.int .i64 (i1 : Int), .int .i64 (j1 : Int)] 44)
    have D1 := (B0.nx q1).nx a1
    clear q1 a1 B0
    go_upto_region 4 with fail
    generalize v1.alloc (.cells #[.int .i64 (i1 : Int), .int .i64 (j1 : Int)] 44) = x1 at *
    generalize v1.heap.size = y1 at *
    obtain ⟨u0, u1, u2⟩ := c3row hu
    go_wp2_with fail
    ((with_reducible refine (H2.out _ D1).mono ?_); rintro e v2 ⟨rfl, q2⟩)
    clear u0 u1 u2
    have a2 := below_al v2 (.cells #[.int .i64 (i1 : Int), .int .i64 (j1 : Int)] 44)
    replace hu := keepD (keepD hu q2) a2
    replace h1 := keepD (keepD h1 q2) a2
    have h2 := heap_alloc_new v2 (.cells #[.int .i64 (i1 : Int), .int .i64 (j1 : Int)] 44)
    have D2 := (D1.nx q2).nx a2
    clear q2 a2 D1
    go_upto_region 5 with fail
    generalize v2.alloc (.cells #[.int .i64 (i1 : Int), .int .i64 (j1 : Int)] 44) = x2 at *
    generalize v2.heap.size = y2 at *
    obtain ⟨u0, u1, u2⟩ := c3row hu
    go_wp2_with fail
    ((with_reducible refine (H3.out _ D2).mono ?_); rintro e v3 ⟨rfl, q3⟩)
    clear u0 u1 u2
    have a3 := below_al v3 (.cells #[.int .i64 (i2 : Int), .int .i64 (j2 : Int)] 44)
    replace hu := keepD (keepD hu q3) a3
    replace h1 := keepD (keepD h1 q3) a3
    replace h2 := keepD (keepD h2 q3) a3
    have h3 := heap_alloc_new v3 (.cells #[.int .i64 (i2 : Int), .int .i64 (j2 : Int)] 44)
    have D3 := (D2.nx q3).nx a3
    clear q3 a3 D2
    go_upto_region 6 with fail
    generalize v3.alloc (.cells #[.int .i64 (i2 : Int), .int .i64 (j2 : Int)] 44) = x3 at *
    generalize v3.heap.size = y3 at *
    obtain ⟨u0, u1, u2⟩ := c3row hu
    go_wp2_with fail
    ((with_reducible refine (H4.out _ D3).mono ?_); rintro e v4 ⟨rfl, q4⟩)
    clear u0 u1 u2
    have a4 := below_al v4 (.cells #[.int .i64 (i2 : Int), .int .i64 (j2 : Int)] 44)
    replace hu := keepD (keepD hu q4) a4
    replace h1 := keepD (keepD h1 q4) a4
    replace h2 := keepD (keepD h2 q4) a4
    replace h3 := keepD (keepD h3 q4) a4
    have h4 := heap_alloc_new v4 (.cells #[.int .i64 (i2 : Int), .int .i64 (j2 : Int)] 44)
    have D4 := (D3.nx q4).nx a4
    clear q4 a4 D3
    go_upto_region 7 with fail
    generalize v4.alloc (.cells #[.int .i64 (i2 : Int), .int .i64 (j2 : Int)] 44) = x4 at *
    generalize v4.heap.size = y4 at *
    go_wp2_with fail
    ((with_reducible refine (HAW.out _ D4).mono ?_); rintro e w9 ⟨rfl, q9⟩)
    have D9 := D4.nx q9
    obtain ⟨e1, e2⟩ := c2row (keepD h1 q9)
    obtain ⟨e3, e4⟩ := c2row (keepD h2 q9)
    obtain ⟨e5, e6⟩ := c2row (keepD h3 q9)
    obtain ⟨e7, e8⟩ := c2row (keepD h4 q9)
    clear h1 h2 h3 h4 hu q9 D4
    go_wp2
    go_ret
    exact ⟨ret_bool (by simp), D9⟩
end Go.Proofs.Wk
