/- SQUARENESS: the law of turned directions, walked. -/
import Derived.Test.YtenoganbeccanaaGreatDoorLoA
import Derived.Test.YtenoganbeccanaaGreatDoorOA
namespace Go.Proofs.Wk
open Go.RowKit Mt

theorem mul7 {k x : Int} (hk : -128 ≤ k ∧ k ≤ 127) (hx : -700 ≤ x ∧ x ≤ 700) : -89600 ≤ k * x ∧ k * x ≤ 89600 := by
  have := St.mul_bd (x := k) (y := x) (k := 128) (m := 700) (by omega) (by omega)
  omega
section
variable {ls : List St.Pt} {d : St.Pt}
theorem along_val (h : flatE ls d = 0) : ∃ i j : Nat, alongV ls d = .tuple #[.string ⟨(rtoa (Or.along ls d)).toArray⟩, .agg #[.int .i64 (i : Int), .int .i64 (j : Int)], .int .i64 0] := ⟨_, _, if_pos h⟩
theorem beside_val (h : flatE ls d = 0) : ∃ i j : Nat, besideV ls d = .tuple #[.string ⟨(rtoa (Or.beside ls d)).toArray⟩, .agg #[.int .i64 (i : Int), .int .i64 (j : Int)], .int .i64 0] := ⟨_, _, if_pos h⟩
theorem flatE_dir {d' : St.Pt} (h : flatE ls d = 0) (hp : St.InP d') (hn : d' ≠ ⟨0, 0⟩) : flatE ls d' = 0 := by
  obtain ⟨l0, -⟩ := flatE_ok h
  unfold flatE at h ⊢
  by_cases hc : St.chkP ls = 0
  · rw [if_pos hc] at h ⊢
    rw [if_pos (St.inB_iff.2 hp), if_neg (by omega), if_neg hn]
  · rw [if_neg hc] at h; exact absurd h hc
theorem rg_sz (hl : ls ≠ []) (f : St.Pt → Int) (hf : ∀ p ∈ ls, -100000000000 ≤ f p ∧ f p ≤ 100000000000) : lng (Or.rg ls f * Or.rg ls f) ≤ 42 := by
  obtain ⟨-, x, hx, y, hy, e⟩ := Or.rg_spec f hl
  have := hf x hx
  have := hf y hy
  rw [e]
  exact Nat.le_trans (lngVV (by omega)) (by decide)
theorem dd_sz (hd : St.InP d) : lng (St.dot d d) ≤ 42 := by
  have := dot_in hd hd
  refine lng_bd (by decide) ?_
  have e : (10 : Nat) ^ 42 > 100000000000 := by decide
  omega
theorem along_sz (hl : ls ≠ []) (hin : ∀ p ∈ ls, St.InP p) (hd : St.InP d) (hne : d ≠ ⟨0, 0⟩) : szQ (Or.along ls d) 42 ∧ szQ (Or.beside ls d) 42 := by
  have hp := Or.dot2_pos hne
  refine ⟨szQ_divInt (rg_sz hl _ fun p h => crs_in hd (hin p h)) (dd_sz hd) (by omega), szQ_divInt (rg_sz hl _ fun p h => ?_) (dd_sz hd) (by omega)⟩
  have := dot_in hd (hin p h); omega
end
theorem far_sz {n : Int} (h : 0 ≤ n ∧ n ≤ 80000000000) : szQ (n : Rat) 42 := by
  refine szQ_int (by decide) ?_
  have e : (10 : Nat) ^ 42 > 100000000000 := by decide
  omega
/-- How far the greatest distance has come. -/
def FrD (ls : List St.Pt) (i j : Nat) (m : Int) : Prop := (0 ≤ m ∧ m ≤ 80000000000) ∧ (∀ a b, a < i → b < ls.length → St.far (St.at_ ls a) (St.at_ ls b) ≤ m) ∧ ∀ b, b < j → b < ls.length → St.far (St.at_ ls i) (St.at_ ls b) ≤ m
theorem FrD.row {ls : List St.Pt} {i : Nat} {m : Int} (h : FrD ls i ls.length m) : FrD ls (i + 1) 0 m := by
  refine ⟨h.1, fun a b ha hb => ?_, fun b hb => absurd hb (Nat.not_lt_zero b)⟩
  by_cases e : a = i
  · subst e; exact h.2.2 b hb hb
  · exact h.2.1 a b (by omega) hb
theorem FrD.step {ls : List St.Pt} {i j : Nat} {m n : Int} (h : FrD ls i j m) (hn : n = St.far (St.at_ ls i) (St.at_ ls j)) (hb : 0 ≤ n ∧ n ≤ 80000000000) : FrD ls i (j + 1) (max m n) := by
  have h1 := h.1
  refine ⟨by omega, fun a b ha hb => ?_, fun b hb hbl => ?_⟩
  · have := h.2.1 a b ha hb; omega
  · by_cases e : b = j
    · subst e; omega
    · have := h.2.2 b (by omega) hbl; omega
theorem FrD.all {ls : List St.Pt} {m : Int} (h : FrD ls ls.length 0 m) : ∀ x ∈ ls, ∀ y ∈ ls, St.far x y ≤ m := by
  intro x hx y hy
  obtain ⟨a, ha, rfl⟩ := St.mem_at hx
  obtain ⟨b, hb, rfl⟩ := St.mem_at hy
  exact h.2.1 a b ha hb
set_option maxRecDepth 100000 in
set_option maxHeartbeats 8000000 in
theorem turns_law {v : Value} (ls : List St.Pt) (d : St.Pt) (k : Int) (w : World) (hg : Good w) (S : SlX w v ls) (hln : ls.length ≤ 140737488355328) (hk : -128 ≤ k ∧ k ≤ 127) :
    Calls Tryz.prog 7 #[v, ptV d, .int .i8 k] w (Ret w (.bool true)) := by
  have HAW := Lib.hid (fun W (h : Below w.heap.size w W) => awakeO_c W (hg.later h))
  have HFL := Lib.hid (fun W (h : Below w.heap.size w W) => rFlat_c ls d W (S.later h) hln)
  have hu := heap_alloc_new w (.cells #[.int .i64 d.x, .int .i64 d.y] 42)
  have B0 := below_al w (.cells #[.int .i64 d.x, .int .i64 d.y] 42)
  by_cases c1 : 8 < ls.length
  · obtain ⟨sa, cap, rfl⟩ := S.len
    obtain ⟨dx, dy⟩ := d
    have z1 : (8 : Int) < (ls.length : Int) := by omega
    clear S hg c1 hu
    go_enter Tryz.func7, Tryz.ntmps7
    go_wp2_with fail
    generalize w.alloc (.cells #[.int .i64 dx, .int .i64 dy] 42) = W at *
    ((with_reducible refine (HAW.out _ B0).mono ?_); rintro e wz ⟨rfl, hbz⟩)
    have hBz := (B0).nx hbz
    go_wp2
    go_ret
    exact ⟨rfl, hBz⟩
  have z1 : ¬ (8 : Int) < (ls.length : Int) := by omega
  by_cases c2 : flatE ls d = 0
  rotate_left
  · generalize flatE ls d = E at *
    have z2 : (E != 0) = true := bne_iff_ne.2 c2
    obtain ⟨sa, cap, rfl⟩ := S.len
    obtain ⟨dx, dy⟩ := d
    obtain ⟨u0, u1⟩ := c2row hu
    clear S hg c1 c2
    go_enter Tryz.func7, Tryz.ntmps7
    go_wp2_with fail
    generalize w.alloc (.cells #[.int .i64 dx, .int .i64 dy] 42) = W at *
    ((with_reducible refine (HFL.out _ B0).mono ?_); rintro e w1 ⟨rfl, hb1⟩)
    have B1 := B0.nx hb1
    clear hu u0 u1
    go_wp2_with fail
    ((with_reducible refine (HAW.out _ B1).mono ?_); rintro e wz ⟨rfl, hbz⟩)
    have hBz := (B1).nx hbz
    go_wp2
    go_ret
    exact ⟨rfl, hBz⟩
  rw [c2] at HFL
  by_cases c3 : k = 0
  · subst c3
    obtain ⟨sa, cap, rfl⟩ := S.len
    obtain ⟨dx, dy⟩ := d
    obtain ⟨u0, u1⟩ := c2row hu
    clear S hg c1 c2
    go_enter Tryz.func7, Tryz.ntmps7
    go_wp2_with fail
    generalize w.alloc (.cells #[.int .i64 dx, .int .i64 dy] 42) = W at *
    ((with_reducible refine (HFL.out _ B0).mono ?_); rintro e w1 ⟨rfl, hb1⟩)
    have B1 := B0.nx hb1
    clear hu u0 u1
    go_wp2_with fail
    ((with_reducible refine (HAW.out _ B1).mono ?_); rintro e wz ⟨rfl, hbz⟩)
    have hBz := (B1).nx hbz
    go_wp2
    go_ret
    exact ⟨rfl, hBz⟩
  have z3 : (k == 0) = false := beq_eq_false_iff_ne.2 c3
  by_cases c4 : d.x < -700
  · obtain ⟨sa, cap, rfl⟩ := S.len
    obtain ⟨dx, dy⟩ := d
    simp only at c4
    obtain ⟨u0, u1⟩ := c2row hu
    have hu2 := fun W1 (h : Below (w.alloc (.cells #[.int .i64 dx, .int .i64 dy] 42)).heap.size (w.alloc (.cells #[.int .i64 dx, .int .i64 dy] 42)) W1) => keepD hu h
    clear S hg c1 c2 hu
    go_enter Tryz.func7, Tryz.ntmps7
    go_wp2_with fail
    generalize w.alloc (.cells #[.int .i64 dx, .int .i64 dy] 42) = W at *
    ((with_reducible refine (HFL.out _ B0).mono ?_); rintro e w1 ⟨rfl, hb1⟩)
    have B1 := B0.nx hb1
    clear u0 u1
    obtain ⟨u0, u1⟩ := c2row (hu2 _ hb1)
    go_wp2_with fail
    ((with_reducible refine (HAW.out _ B1).mono ?_); rintro e wz ⟨rfl, hbz⟩)
    have hBz := (B1).nx hbz
    go_wp2
    go_ret
    exact ⟨rfl, hBz⟩
  by_cases c5 : 700 < d.x
  · obtain ⟨sa, cap, rfl⟩ := S.len
    obtain ⟨dx, dy⟩ := d
    simp only at c4 c5
    obtain ⟨u0, u1⟩ := c2row hu
    have hu2 := fun W1 (h : Below (w.alloc (.cells #[.int .i64 dx, .int .i64 dy] 42)).heap.size (w.alloc (.cells #[.int .i64 dx, .int .i64 dy] 42)) W1) => keepD hu h
    clear S hg c1 c2 hu
    go_enter Tryz.func7, Tryz.ntmps7
    go_wp2_with fail
    generalize w.alloc (.cells #[.int .i64 dx, .int .i64 dy] 42) = W at *
    ((with_reducible refine (HFL.out _ B0).mono ?_); rintro e w1 ⟨rfl, hb1⟩)
    have B1 := B0.nx hb1
    clear u0 u1
    obtain ⟨u0, u1⟩ := c2row (hu2 _ hb1)
    go_wp2_with fail
    ((with_reducible refine (HAW.out _ B1).mono ?_); rintro e wz ⟨rfl, hbz⟩)
    have hBz := (B1).nx hbz
    go_wp2
    go_ret
    exact ⟨rfl, hBz⟩
  by_cases c6 : d.y < -700
  · obtain ⟨sa, cap, rfl⟩ := S.len
    obtain ⟨dx, dy⟩ := d
    simp only at c4 c5 c6
    obtain ⟨u0, u1⟩ := c2row hu
    have hu2 := fun W1 (h : Below (w.alloc (.cells #[.int .i64 dx, .int .i64 dy] 42)).heap.size (w.alloc (.cells #[.int .i64 dx, .int .i64 dy] 42)) W1) => keepD hu h
    clear S hg c1 c2 hu
    go_enter Tryz.func7, Tryz.ntmps7
    go_wp2_with fail
    generalize w.alloc (.cells #[.int .i64 dx, .int .i64 dy] 42) = W at *
    ((with_reducible refine (HFL.out _ B0).mono ?_); rintro e w1 ⟨rfl, hb1⟩)
    have B1 := B0.nx hb1
    clear u0 u1
    obtain ⟨u0, u1⟩ := c2row (hu2 _ hb1)
    go_wp2_with fail
    ((with_reducible refine (HAW.out _ B1).mono ?_); rintro e wz ⟨rfl, hbz⟩)
    have hBz := (B1).nx hbz
    go_wp2
    go_ret
    exact ⟨rfl, hBz⟩
  by_cases c7 : 700 < d.y
  · obtain ⟨sa, cap, rfl⟩ := S.len
    obtain ⟨dx, dy⟩ := d
    simp only at c4 c5 c6 c7
    obtain ⟨u0, u1⟩ := c2row hu
    have hu2 := fun W1 (h : Below (w.alloc (.cells #[.int .i64 dx, .int .i64 dy] 42)).heap.size (w.alloc (.cells #[.int .i64 dx, .int .i64 dy] 42)) W1) => keepD hu h
    clear S hg c1 c2 hu
    go_enter Tryz.func7, Tryz.ntmps7
    go_wp2_with fail
    generalize w.alloc (.cells #[.int .i64 dx, .int .i64 dy] 42) = W at *
    ((with_reducible refine (HFL.out _ B0).mono ?_); rintro e w1 ⟨rfl, hb1⟩)
    have B1 := B0.nx hb1
    clear u0 u1
    obtain ⟨u0, u1⟩ := c2row (hu2 _ hb1)
    go_wp2_with fail
    ((with_reducible refine (HAW.out _ B1).mono ?_); rintro e wz ⟨rfl, hbz⟩)
    have hBz := (B1).nx hbz
    go_wp2
    go_ret
    exact ⟨rfl, hBz⟩
  obtain ⟨l0, l64, hin, hd, hne⟩ := flatE_ok c2
  have hlz : ls ≠ [] := by rintro rfl; simp at l0
  have hx := Go.Proofs.Wk.mul7 hk (show -700 ≤ d.x ∧ d.x ≤ 700 by omega)
  have hy := Go.Proofs.Wk.mul7 hk (show -700 ≤ d.y ∧ d.y ≤ 700 by omega)
  have hm : flatE ls ⟨k * d.x, k * d.y⟩ = 0 := flatE_dir c2 (by unfold St.InP; simp only; omega) (fun e => hne (by
    obtain ⟨dx, dy⟩ := d
    simp only [St.Pt.mk.injEq] at e ⊢
    exact ⟨(Int.mul_eq_zero.1 e.1).resolve_left c3, (Int.mul_eq_zero.1 e.2).resolve_left c3⟩))
  have ht : flatE ls ⟨-d.y, d.x⟩ = 0 := flatE_dir c2 (by unfold St.InP at hd ⊢; simp only; omega) (fun e => hne (by
    obtain ⟨dx, dy⟩ := d
    simp only [St.Pt.mk.injEq] at e ⊢
    omega))
  obtain ⟨i1, j1, v1⟩ := along_val c2
  obtain ⟨i2, j2, v2⟩ := along_val hm
  obtain ⟨i3, j3, v3⟩ := beside_val c2
  obtain ⟨i4, j4, v4⟩ := beside_val hm
  obtain ⟨i5, j5, v5⟩ := along_val ht
  rw [Or.along_scale hlz hne c3] at v2
  rw [Or.beside_scale hlz hne c3] at v4
  rw [Or.beside_turn hlz] at v5
  have H1 := Lib.hid (fun W (h : Below w.heap.size w W) => by have := Along_c ls d W (hg.later h) (S.later h) hln; rwa [v1] at this)
  have H2 := Lib.hid (fun W (h : Below w.heap.size w W) => by have := Along_c ls ⟨k * d.x, k * d.y⟩ W (hg.later h) (S.later h) hln; rwa [v2] at this)
  have H3 := Lib.hid (fun W (h : Below w.heap.size w W) => by have := Beside_c ls d W (hg.later h) (S.later h) hln; rwa [v3] at this)
  have H4 := Lib.hid (fun W (h : Below w.heap.size w W) => by have := Beside_c ls ⟨k * d.x, k * d.y⟩ W (hg.later h) (S.later h) hln; rwa [v4] at this)
  have H5 := Lib.hid (fun W (h : Below w.heap.size w W) => by have := Along_c ls ⟨-d.y, d.x⟩ W (hg.later h) (S.later h) hln; rwa [v5] at this)
  obtain ⟨sz1, sz2⟩ := along_sz hlz hin hd hne
  have HLE := Lib.hid (fun (M : Int) hM => Or.along_far (M := M) hlz hne hM)
  have HC1 := Lib.hid (fun (M : Int) W (h : Below w.heap.size w W) (hM : 0 ≤ M ∧ M ≤ 80000000000) => qCmpR (Or.along ls d) (M : Rat) W (hg.later h) (sz1.mono (by decide)) ((far_sz hM).mono (by decide)))
  have HC2 := Lib.hid (fun (M : Int) W (h : Below w.heap.size w W) (hM : 0 ≤ M ∧ M ≤ 80000000000) => qCmpR (Or.beside ls d) (M : Rat) W (hg.later h) (sz2.mono (by decide)) ((far_sz hM).mono (by decide)))
  have HCL := Lib.hid (fun (M : Int) => And.intro (cmpQ_le (Or.along ls d) (M : Rat)) (cmpQ_le (Or.beside ls d) (M : Rat)))
  have HWH := Lib.hid (fun (M : Int) W (hM : 0 ≤ M ∧ M ≤ 80000000000) => by have := rWhole_q M W (by omega) (by omega); rwa [← rtoa_int] at this)
  have HFA := Lib.hid (fun i j (hi : i < ls.length) (hj : j < ls.length) W => rFar_c (St.at_ ls i) (St.at_ ls j) W (St.at_in hin hi) (St.at_in hin hj))
  have HFB := Lib.hid (fun i j (hi : i < ls.length) (hj : j < ls.length) => (St.far_bd (St.at_in hin hi) (St.at_in hin hj)).2.2)
  have HF0 := Lib.hid (show FrD ls 0 0 0 from ⟨by omega, fun a b h => absurd h (Nat.not_lt_zero a), fun b h => absurd h (Nat.not_lt_zero b)⟩)
  have HFR := Lib.hid (fun i m => @FrD.row ls i m)
  have HFS := Lib.hid (fun i j m n => @FrD.step ls i j m n)
  have HFE := Lib.hid (fun m => @FrD.all ls m)
  refine S.cases _ ?_ ?_
  · rintro a cap rfl rfl
    simp at l0
  rintro b off cap rfl hp hR hb
  have HRR := Lib.hid (fun (W : World) (h : Below w.heap.size w W) (k : Nat) (hk : k < ls.length) => (hR.later h hb).ptAt hk)
  generalize Or.along ls d = QA at *
  generalize Or.beside ls d = QB at *
  generalize rtoa QA = TA at *
  generalize rtoa QB = TB at *
  obtain ⟨dx, dy⟩ := d
  simp only at c4 c5 c6 c7 hx hy H2 H4 H5 hu B0
  have hw1 : IntKind.i64.wrap k = k := Go.Proofs.Wk.wr rfl (by omega)
  obtain ⟨kx, ekx⟩ : ∃ a, k * dx = a := ⟨_, rfl⟩
  obtain ⟨ky, eky⟩ : ∃ a, k * dy = a := ⟨_, rfl⟩
  rw [ekx, eky] at H2 H4
  have hw2 : IntKind.i64.wrap (k * dx) = kx := Go.Proofs.Wk.wr ekx (by omega)
  have hw3 : IntKind.i64.wrap (k * dy) = ky := Go.Proofs.Wk.wr eky (by omega)
  have hw4 : IntKind.i64.wrap (-dy) = -dy := Go.Proofs.Wk.wr rfl (by omega)
  have HU := Lib.hid hu
  obtain ⟨u0, u1⟩ := c2row hu
  clear S hg c1 c2 hR hb hp hm ht v1 v2 v3 v4 v5 hlz hin hd hne sz1 sz2 hu ekx eky hx hy l64
  go_enter Tryz.func7, Tryz.ntmps7
  go_wp2_with fail
  generalize w.alloc (.cells #[.int .i64 dx, .int .i64 dy] 42) = W at *
  ((with_reducible refine (HFL.out _ B0).mono ?_); rintro e w1 ⟨rfl, hb1⟩)
  have B1 := B0.nx hb1
  have HU1 := Lib.hid (keepD HU.out hb1)
  clear u0 u1 HU hb1 B0
  obtain ⟨u0, u1⟩ := c2row HU1.out
  obtain ⟨u2, u3⟩ := c2row (keepD HU1.out (below_al w1 (.cells #[.int .i64 kx, .int .i64 ky] 42)))
  go_wp2_with fail
  have hm0 := heap_alloc_new w1 (.cells #[.int .i64 kx, .int .i64 ky] 42)
  have a0 := below_al w1 (.cells #[.int .i64 kx, .int .i64 ky] 42)
  have hu1 := keepD HU1.out a0
  have B2 := B1.nx a0
  clear HU1 a0 B1 u0 u1 u2 u3
  generalize w1.alloc (.cells #[.int .i64 kx, .int .i64 ky] 42) = x0 at *
  generalize w1.heap.size = y0 at *
  ((with_reducible refine (H1.out _ B2).mono ?_); rintro e t1 ⟨rfl, q1⟩)
  have a1 := below_al t1 (.cells #[.int .i64 (i1 : Int), .int .i64 (j1 : Int)] 44)
  replace hu1 := keepD (keepD hu1 q1) a1
  replace hm0 := keepD (keepD hm0 q1) a1
  have D1 := (B2.nx q1).nx a1
  clear q1 a1 B2
  go_upto_region 5 with fail
  generalize t1.alloc (.cells #[.int .i64 (i1 : Int), .int .i64 (j1 : Int)] 44) = x1 at *
  generalize t1.heap.size = y1 at *
  obtain ⟨u0, u1⟩ := c2row hu1
  obtain ⟨m0, m1⟩ := c2row hm0
  go_wp2_with fail
  ((with_reducible refine (H2.out _ D1).mono ?_); rintro e t2 ⟨rfl, q2⟩)
  clear u0 u1 m0 m1
  have a2 := below_al t2 (.cells #[.int .i64 (i2 : Int), .int .i64 (j2 : Int)] 44)
  replace hu1 := keepD (keepD hu1 q2) a2
  replace hm0 := keepD (keepD hm0 q2) a2
  have D2 := (D1.nx q2).nx a2
  clear q2 a2 D1
  go_upto_region 6 with fail
  generalize t2.alloc (.cells #[.int .i64 (i2 : Int), .int .i64 (j2 : Int)] 44) = x2 at *
  generalize t2.heap.size = y2 at *
  obtain ⟨u0, u1⟩ := c2row hu1
  obtain ⟨m0, m1⟩ := c2row hm0
  go_wp2_with fail
  ((with_reducible refine (H3.out _ D2).mono ?_); rintro e t3 ⟨rfl, q3⟩)
  clear u0 u1 m0 m1
  have a3 := below_al t3 (.cells #[.int .i64 (i3 : Int), .int .i64 (j3 : Int)] 44)
  replace hu1 := keepD (keepD hu1 q3) a3
  replace hm0 := keepD (keepD hm0 q3) a3
  have D3 := (D2.nx q3).nx a3
  clear q3 a3 D2
  go_upto_region 7 with fail
  generalize t3.alloc (.cells #[.int .i64 (i3 : Int), .int .i64 (j3 : Int)] 44) = x3 at *
  generalize t3.heap.size = y3 at *
  obtain ⟨u0, u1⟩ := c2row hu1
  obtain ⟨m0, m1⟩ := c2row hm0
  go_wp2_with fail
  ((with_reducible refine (H4.out _ D3).mono ?_); rintro e t4 ⟨rfl, q4⟩)
  clear u0 u1 m0 m1
  have a4 := below_al t4 (.cells #[.int .i64 (i4 : Int), .int .i64 (j4 : Int)] 44)
  replace hu1 := keepD (keepD hu1 q4) a4
  replace hm0 := keepD (keepD hm0 q4) a4
  have D4 := (D3.nx q4).nx a4
  clear q4 a4 D3
  go_upto_region 8 with fail
  generalize t4.alloc (.cells #[.int .i64 (i4 : Int), .int .i64 (j4 : Int)] 44) = x4 at *
  generalize t4.heap.size = y4 at *
  obtain ⟨u0, u1⟩ := c2row hu1
  obtain ⟨m0, m1⟩ := c2row hm0
  go_wp2_with fail
  ((with_reducible refine (H5.out _ D4).mono ?_); rintro e t5 ⟨rfl, q5⟩)
  clear u0 u1 m0 m1
  have a5 := below_al t5 (.cells #[.int .i64 (i5 : Int), .int .i64 (j5 : Int)] 44)
  replace hu1 := keepD (keepD hu1 q5) a5
  replace hm0 := keepD (keepD hm0 q5) a5
  have D5 := (D4.nx q5).nx a5
  clear q5 a5 D4
  go_upto_region 9 with fail
  generalize t5.alloc (.cells #[.int .i64 (i5 : Int), .int .i64 (j5 : Int)] 44) = x5 at *
  generalize t5.heap.size = y5 at *
  clear hu1 hm0 H1 H2 H3 H4 H5
  have z9 : (TA == TA) = true := beq_self_eq_true _
  have z8 : (TB == TB) = true := beq_self_eq_true _
  have HB5 := Lib.hid D5
  clear D5
  go_wp2_with fail
  go_loopw [23, 142] (fun sm si wr => ∃ (i : Nat) (m : Int), sm = .int .i64 m ∧ si = .int .i64 (i : Int) ∧ i ≤ ls.length ∧ Hid (FrD ls i 0 m) ∧ Hid (Below w.heap.size w wr)) (fun _ si _ => ls.length - (intOf si).toNat)
  case atStart => exact ⟨0, 0, rfl, rfl, Nat.zero_le _, HF0.out, HB5.out⟩
  case round =>
    obtain ⟨i, m, rfl, rfl, hi, hf, hB⟩ := hrel
    by_cases hlt : i < ls.length
    · have hp1 := HRR.out _ hB.out i hlt
      have hpa := HRR.out _ (hB.out.nx (below_al _ (.cells #[.int .i64 (St.at_ ls i).x, .int .i64 (St.at_ ls i).y] 42))) i hlt
      rename World => wr
      have hA := below_al wr (.cells #[.int .i64 (St.at_ ls i).x, .int .i64 (St.at_ ls i).y] 42)
      have hpn := heap_alloc_new wr (.cells #[.int .i64 (St.at_ ls i).x, .int .i64 (St.at_ ls i).y] 42)
      have HFA2 := Lib.hid (fun j hj => HFA.out i j hlt hj)
      have HFB2 := Lib.hid (fun j hj => HFB.out i j hlt hj)
      have HFS2 := Lib.hid (fun j m n => HFS.out i j m n)
      have HBA := Lib.hid (hB.out.nx hA)
      generalize St.at_ ls i = p at *
      obtain ⟨px, py⟩ := p
      obtain ⟨m0, m1⟩ := id hp1
      have HPN := Lib.hid hpn
      clear hpn hp1 hpa hA hB
      go_wp2_with fail
      generalize wr.alloc (.cells #[.int .i64 px, .int .i64 py] 42) = W2 at *
      generalize wr.heap.size = gp at *
      clear m0 m1
      go_loopw [23, 148] (fun sm sj wr => ∃ (j : Nat) (m : Int), sm = .int .i64 m ∧ sj = .int .i64 (j : Int) ∧ j ≤ ls.length ∧ Hid (FrD ls i j m) ∧ Hid (Below w.heap.size w wr) ∧ Hid (wr.heap[gp]? = some (.cells #[.int .i64 px, .int .i64 py] 42 (0, 0)))) (fun _ sj _ => ls.length - (intOf sj).toNat)
      case atStart => exact ⟨0, m, rfl, rfl, Nat.zero_le _, hf.out, HBA.out, HPN.out⟩
      case round =>
        clear hf HBA HPN
        obtain ⟨j, m2, rfl, rfl, hj, hf, hB, hP⟩ := hrel
        by_cases hlt2 : j < ls.length
        · rename World => wq
          have hp2 := HRR.out _ hB.out j hlt2
          have hfa := HFA2.out j hlt2
          have hfb := HFB2.out j hlt2
          have hfs := fun n => HFS2.out j m2 n hf.out
          have hA := below_al wq (.cells #[.int .i64 (St.at_ ls j).x, .int .i64 (St.at_ ls j).y] 42)
          generalize St.far ⟨px, py⟩ (St.at_ ls j) = n at *
          generalize St.at_ ls j = q at *
          obtain ⟨qx, qy⟩ := q
          obtain ⟨m0, m1⟩ := id hp2
          have HF2 := Lib.hid (hfs n rfl hfb)
          have HP2 := Lib.hid (keepD hP.out hA)
          have HQ2 := Lib.hid (heap_alloc_new wq (.cells #[.int .i64 qx, .int .i64 qy] 42))
          have HB2 := Lib.hid (hB.out.nx hA)
          have HFA3 := Lib.hid hfa
          clear hp2 hfa hfs hA hP hB hf
          obtain ⟨f0, f1⟩ := c2row HP2.out
          obtain ⟨f2, f3⟩ := c2row HQ2.out
          go_wp2_with fail
          ((with_reducible refine (HFA3.out _).mono ?_); rintro e wf ⟨rfl, hbf⟩)
          have HB3 := Lib.hid (HB2.out.nx hbf)
          have HP3 := Lib.hid (keepD HP2.out hbf)
          clear f0 f1 f2 f3 HP2 HQ2 HB2 hbf m0 m1
          go_wp2
          go_roundw
          case rel => exact ⟨j + 1, max m2 n, rfl, by go_num, by omega, HF2.out, HB3.out, HP3.out⟩
          case measure => simp [intOf]; omega
        · obtain rfl : j = ls.length := by omega
          have HF2 := Lib.hid (HFR.out i m2 hf.out)
          clear hf
          go_wp2
          go_roundw
          case rel => exact ⟨i + 1, m2, rfl, by go_num, by omega, HF2.out, hB.out⟩
          case measure => simp [intOf]; omega
    · obtain rfl : i = ls.length := by omega
      have hM := hf.out.1
      obtain ⟨le1, le2⟩ := HLE.out m (HFE.out m hf.out)
      obtain ⟨k1, k2⟩ := HCL.out m
      have HC1' := Lib.hid (fun W h => HC1.out m W h hM)
      have HC2' := Lib.hid (fun W h => HC2.out m W h hM)
      have HWH' := Lib.hid (fun W => HWH.out m W hM)
      rw [decide_eq_true le1] at k1
      rw [decide_eq_true le2] at k2
      replace k1 := of_decide_eq_true k1
      replace k2 := of_decide_eq_true k2
      generalize rtoa (m : Rat) = TM at *
      generalize cmpQ QA (m : Rat) = n1 at *
      generalize cmpQ QB (m : Rat) = n2 at *
      clear HF0 HFR HFS HFE HFA HFB HRR HLE HCL HC1 HC2 HWH hf le1 le2 hM
      go_wp2_with fail
      ((with_reducible refine (HWH'.out _).mono ?_); rintro e r1 ⟨rfl, g1⟩)
      have E1 := hB.out.nx g1
      clear hB g1
      go_wp2_with fail
      ((with_reducible refine (HC1'.out _ E1).mono ?_); rintro e r2 ⟨rfl, g2⟩)
      have E2 := E1.nx g2
      clear E1 g2
      go_wp2_with fail
      ((with_reducible refine (HWH'.out _).mono ?_); rintro e r3 ⟨rfl, g3⟩)
      have E3 := E2.nx g3
      clear E2 g3
      go_wp2_with fail
      ((with_reducible refine (HC2'.out _ E3).mono ?_); rintro e r4 ⟨rfl, g4⟩)
      have E4 := E3.nx g4
      clear E3 g4
      go_wp2_with fail
      ((with_reducible refine (HAW.out _ E4).mono ?_); rintro e r5 ⟨rfl, g5⟩)
      have E5 := E4.nx g5
      go_wp2
      go_ret
      exact ⟨rfl, E5⟩
end Go.Proofs.Wk
