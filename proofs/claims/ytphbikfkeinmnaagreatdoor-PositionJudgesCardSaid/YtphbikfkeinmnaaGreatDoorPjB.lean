/- POSITION: the statement Judges. -/
import Derived.Test.YtphbikfkeinmnaaGreatDoorPM
namespace Go.Proofs.Wk
open Go.RowKit Mt Po

set_option maxRecDepth 100000 in
set_option maxHeartbeats 8000000 in
theorem judges_z (c : Ca) (fv dv sv : Value) (tt : TT) (ds : List Dt) (ls : List Sp) (w : World) (hg : Good w) (S : CaS w c fv dv sv ds ls) (hl : ∀ l ∈ tt.l, l.length ≤ 140737488355328) (HZ : ∀ W, Calls Tryz.prog 28 #[] W (Ret W (ttV zTT'))) :
    Calls Tryz.prog 4 #[caV c fv dv sv, ttV tt] w (Ret w (.bool true)) := by
  have HF := Lib.hid (fun W (h : Below w.heap.size w W) => rfew_c c fv dv sv ds ls W (S.later h))
  have HS := Lib.hid (fun W => rtorShort_c tt W)
  have HA := Lib.hid (fun W (h : Below w.heap.size w W) => awake_z W (hg.later h) HZ)
  have HW := Lib.hid (judge_all c fv dv sv tt ds ls w hg S hl)
  have hJ := Tw.new w (caC c fv dv sv).toList (ttC tt).toList 34 38
  generalize ttS tt = SB at *
  obtain ⟨⟨nm, kind, axis, ⟨ax, ay, az⟩, lo, fhi⟩, ⟨xk, disc, tol, mat⟩, b0⟩ := c
  simp only at hJ HF HW
  clear S hg hl HZ
  go_enter Tryz.func4, Tryz.ntmps4
  go_upto_region 1 with fail
  generalize hW0 : (w.alloc (.cells #[.string ⟨nm.toArray⟩, .int .i64 kind, .int .i64 axis, .int .i64 ax, .int .i64 ay, .int .i64 az, .int .i64 lo, .int .i64 fhi, fv, .int .i64 xk, .bool disc, .int .i64 tol, .int .i64 mat, dv, sv, .int .i64 b0] 34)).alloc (.cells (ttC tt) 38) = W0 at *
  clear hW0
  generalize w.heap.size + 1 = gt at *
  obtain ⟨c0, c1, c2, c3, c4, c5, c6, c7, c8, c9, ca, cb, cc, cd, ce, cf⟩ := c16row hJ.a
  go_wp2_with fail
  ((with_reducible refine (HF.out _ hJ.w).mono ?_); rintro e w1 ⟨b, rfl, hb1⟩)
  have hJ1 := hJ.later hb1
  have hw1 := hJ1.w
  clear c0 c1 c2 c3 c4 c5 c6 c7 c8 c9 ca cb cc cd ce cf hb1 hJ HF
  cases b with
  | false =>
    clear hJ1 HS HW
    go_wp2_with fail
    ((with_reducible refine (HA.out _ hw1).mono ?_); rintro e w2 ⟨rfl, hb2⟩)
    have hw2 := hw1.nx hb2
    go_wp2
    go_ret
    exact ⟨rfl, hw2⟩
  | true =>
    obtain ⟨t0, t1, t2, t3, t4, t5⟩ := c6row hJ1.b
    go_wp2_with fail
    ((with_reducible refine (HS.out _).mono ?_); rintro e w2 ⟨rfl, hb2⟩)
    have hJ2 := hJ1.later hb2
    have hw2 := hJ2.w
    clear t0 t1 t2 t3 t4 t5 hb2 hJ1 hw1 HS
    cases SB with
    | false =>
      clear hJ2 HW
      go_wp2_with fail
      ((with_reducible refine (HA.out _ hw2).mono ?_); rintro e w3 ⟨rfl, hb3⟩)
      have hw3 := hw2.nx hb3
      go_wp2
      go_ret
      exact ⟨rfl, hw3⟩
    | true =>
      obtain ⟨B, E, n, F, H1, H2, H3, H4⟩ := HW.out rfl
      obtain ⟨CS, hCS⟩ : ∃ X : Array Value, #[.string ⟨nm.toArray⟩, .int .i64 kind, .int .i64 axis, .int .i64 ax, .int .i64 ay, .int .i64 az, .int .i64 lo, .int .i64 fhi, fv, .int .i64 xk, .bool disc, .int .i64 tol, .int .i64 mat, dv, sv, .int .i64 b0] = X := ⟨_, rfl⟩
      obtain ⟨TS, hTS⟩ : ∃ X : Array Value, ttC tt = X := ⟨_, rfl⟩
      have HW1 : Hid (∀ W, Below w.heap.size w W → Calls Tryz.prog 16 #[.agg CS, .agg TS] W (Ret W (.tuple #[.bool B, .int .i64 E]))) := Lib.hid (by subst hCS hTS; exact H1)
      have HW2 : Hid (∀ W, Below w.heap.size w W → Calls Tryz.prog 17 #[.agg CS, .agg TS] W (Ret W (.tuple #[.bool B, .int .i64 E]))) := Lib.hid (by subst hCS hTS; exact H2)
      have HW3 : Hid (∀ W, Below w.heap.size w W → Calls Tryz.prog 18 #[.agg CS, .agg TS] W (Ret W (.tuple #[.int .i64 n, .int .i64 F]))) := Lib.hid (by subst hCS hTS; exact H3)
      have HW4 : Hid (∀ W, Below w.heap.size w W → Calls Tryz.prog 19 #[.agg CS, .agg TS] W (Ret W (.tuple #[.int .i64 n, .int .i64 F]))) := Lib.hid (by subst hCS hTS; exact H4)
      have HSA : Hid ((Tryz.prog.info? 34).map (·.size) = some CS.size) := Lib.hid (by subst hCS; kernel_rfl)
      have HSB : Hid ((Tryz.prog.info? 38).map (·.size) = some TS.size) := Lib.hid (by subst hTS; kernel_rfl)
      have hra : w2.heap[w.heap.size]? = some (.cells CS 34 (0, 0)) := by subst hCS; exact hJ2.a
      have hrb : w2.heap[gt]? = some (.cells TS 38 (0, 0)) := by subst hTS; exact hJ2.b
      clear H1 H2 H3 H4 HW hJ2 hCS hTS
      have HRA1 := Lib.hid hra
      have HRB1 := Lib.hid hrb
      clear hra hrb
      go_wp2_with (first | (with_reducible refine wpList_load_row rfl 34 _ rfl w.heap.size (by kernel_rfl) _ CS _ _ HRA1.out Tryz.underlying34 rfl HSA.out ?_) | (with_reducible refine wpList_load_row rfl 38 _ rfl gt (by kernel_rfl) _ TS _ _ HRB1.out Tryz.underlying38 rfl HSB.out ?_))
      ((with_reducible refine (HW1.out _ hw2).mono ?_); rintro e w3 ⟨rfl, hb3⟩)
      have hra := keepD HRA1.out hb3
      have hrb := keepD HRB1.out hb3
      have hw3 := hw2.nx hb3
      clear HRA1 HRB1 hb3 HW1 hw2
      have HRA2 := Lib.hid hra
      have HRB2 := Lib.hid hrb
      clear hra hrb
      go_wp2_with (first | (with_reducible refine wpList_load_row rfl 34 _ rfl w.heap.size (by kernel_rfl) _ CS _ _ HRA2.out Tryz.underlying34 rfl HSA.out ?_) | (with_reducible refine wpList_load_row rfl 38 _ rfl gt (by kernel_rfl) _ TS _ _ HRB2.out Tryz.underlying38 rfl HSB.out ?_))
      ((with_reducible refine (HW2.out _ hw3).mono ?_); rintro e w4 ⟨rfl, hb4⟩)
      have hra := keepD HRA2.out hb4
      have hrb := keepD HRB2.out hb4
      have hw4 := hw3.nx hb4
      clear HRA2 HRB2 hb4 HW2 hw3
      have HRA3 := Lib.hid hra
      have HRB3 := Lib.hid hrb
      clear hra hrb
      go_wp2_with (first | (with_reducible refine wpList_load_row rfl 34 _ rfl w.heap.size (by kernel_rfl) _ CS _ _ HRA3.out Tryz.underlying34 rfl HSA.out ?_) | (with_reducible refine wpList_load_row rfl 38 _ rfl gt (by kernel_rfl) _ TS _ _ HRB3.out Tryz.underlying38 rfl HSB.out ?_))
      ((with_reducible refine (HW3.out _ hw4).mono ?_); rintro e w5 ⟨rfl, hb5⟩)
      have hra := keepD HRA3.out hb5
      have hrb := keepD HRB3.out hb5
      have hw5 := hw4.nx hb5
      clear HRA3 HRB3 hb5 HW3 hw4
      have HRA4 := Lib.hid hra
      have HRB4 := Lib.hid hrb
      clear hra hrb
      go_wp2_with (first | (with_reducible refine wpList_load_row rfl 34 _ rfl w.heap.size (by kernel_rfl) _ CS _ _ HRA4.out Tryz.underlying34 rfl HSA.out ?_) | (with_reducible refine wpList_load_row rfl 38 _ rfl gt (by kernel_rfl) _ TS _ _ HRB4.out Tryz.underlying38 rfl HSB.out ?_))
      ((with_reducible refine (HW4.out _ hw5).mono ?_); rintro e w6 ⟨rfl, hb6⟩)
      have hra := keepD HRA4.out hb6
      have hrb := keepD HRB4.out hb6
      have hw6 := hw5.nx hb6
      clear HRA4 HRB4 hb6 HW4 hw5
      clear hra hrb HSA HSB
      cases B
      all_goals
        go_wp2_with fail
        ((with_reducible refine (HA.out _ hw6).mono ?_); rintro e w7 ⟨rfl, hb7⟩)
        have hw7 := hw6.nx hb7
        go_wp2
        go_ret
        exact ⟨rfl, hw7⟩
end Go.Proofs.Wk
