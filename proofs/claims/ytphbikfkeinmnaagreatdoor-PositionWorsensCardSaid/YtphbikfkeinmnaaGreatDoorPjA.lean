/- POSITION: the statement Worsens. -/
import Derived.Test.YtphbikfkeinmnaaGreatDoorPM
namespace Go.Proofs.Wk
open Go.RowKit Mt Po

set_option maxRecDepth 100000 in
set_option maxHeartbeats 8000000 in
theorem worsens_z (c : Ca) (fv dv sv : Value) (tt : TT) (ds : List Dt) (ls : List Sp) (w : World) (hg : Good w) (S : CaS w c fv dv sv ds ls) (hl : ∀ l ∈ tt.l, l.length ≤ 140737488355328) (HZ : ∀ W, Calls Tryz.prog 28 #[] W (Ret W (ttV zTT'))) :
    Calls Tryz.prog 3 #[caV c fv dv sv, ttV tt] w (Ret w (.bool true)) := by
  have HF := Lib.hid (fun W (h : Below w.heap.size w W) => rfew_c c fv dv sv ds ls W (S.later h))
  have HS := Lib.hid (fun W => rtorShort_c tt W)
  have HA := Lib.hid (fun W (h : Below w.heap.size w W) => awake_z W (hg.later h) HZ)
  have HW := Lib.hid (worst_all c fv dv sv tt ds ls w hg S hl)
  have hJ := Tw.new w (caC c fv dv sv).toList (ttC tt).toList 34 38
  generalize ttS tt = SB at *
  obtain ⟨⟨nm, kind, axis, ⟨ax, ay, az⟩, lo, fhi⟩, ⟨xk, disc, tol, mat⟩, b0⟩ := c
  simp only at hJ HF HW
  clear S hg hl HZ
  go_enter Tryz.func3, Tryz.ntmps3
  go_upto_region 1 with fail
  generalize hW0 : (w.alloc (.cells #[.string ⟨nm.toArray⟩, .int .i64 kind, .int .i64 axis, .int .i64 ax, .int .i64 ay, .int .i64 az, .int .i64 lo, .int .i64 fhi, fv, .int .i64 xk, .bool disc, .int .i64 tol, .int .i64 mat, dv, sv, .int .i64 b0] 34)).alloc (.cells (ttC tt) 38) = W0 at *
  clear hW0
  generalize w.heap.size + 1 = gt at *
  obtain ⟨c0, c1, c2, c3, c4, c5, c6, c7, c8, c9, ca, cb, cc, cd, ce, cf⟩ := c16row hJ.a
  go_wp2_with fail
  ((with_reducible refine (HF.out _ hJ.w).mono ?_); rintro e w1 ⟨b, rfl, hb1⟩)
  have hJ1 := hJ.later hb1
  have hw1 := hJ1.w
  clear c0 c1 c2 c3 c4 c5 c6 c7 c8 c9 ca cb cc cd ce cf hb1 hJ HF
  cases b with
  | false =>
    clear hJ1 HS HW
    go_wp2_with fail
    ((with_reducible refine (HA.out _ hw1).mono ?_); rintro e w2 ⟨rfl, hb2⟩)
    have hw2 := hw1.nx hb2
    go_wp2
    go_ret
    exact ⟨rfl, hw2⟩
  | true =>
    obtain ⟨t0, t1, t2, t3, t4, t5⟩ := c6row hJ1.b
    go_wp2_with fail
    ((with_reducible refine (HS.out _).mono ?_); rintro e w2 ⟨rfl, hb2⟩)
    have hJ2 := hJ1.later hb2
    have hw2 := hJ2.w
    clear t0 t1 t2 t3 t4 t5 hb2 hJ1 hw1 HS
    cases SB with
    | false =>
      clear hJ2 HW
      go_wp2_with fail
      ((with_reducible refine (HA.out _ hw2).mono ?_); rintro e w3 ⟨rfl, hb3⟩)
      have hw3 := hw2.nx hb3
      go_wp2
      go_ret
      exact ⟨rfl, hw3⟩
    | true =>
      obtain ⟨R, i, E, H1, H2, -⟩ := HW.out rfl
      have HW1 := Lib.hid H1
      have HW2 := Lib.hid H2
      clear H1 H2 HW
      obtain ⟨c0, c1, c2, c3, c4, c5, c6, c7, c8, c9, ca, cb, cc, cd, ce, cf⟩ := c16row hJ2.a
      obtain ⟨t0, t1, t2, t3, t4, t5⟩ := c6row hJ2.b
      go_wp2_with fail
      ((with_reducible refine (HW1.out _ hw2).mono ?_); rintro e w3 ⟨rfl, hb3⟩)
      have hJ3 := hJ2.later hb3
      have hw3 := hJ3.w
      clear c0 c1 c2 c3 c4 c5 c6 c7 c8 c9 ca cb cc cd ce cf t0 t1 t2 t3 t4 t5 hb3 hJ2 hw2 HW1
      obtain ⟨c0, c1, c2, c3, c4, c5, c6, c7, c8, c9, ca, cb, cc, cd, ce, cf⟩ := c16row hJ3.a
      obtain ⟨t0, t1, t2, t3, t4, t5⟩ := c6row hJ3.b
      go_wp2_with fail
      ((with_reducible refine (HW2.out _ hw3).mono ?_); rintro e w4 ⟨rfl, hb4⟩)
      have hw4 := hw3.nx hb4
      clear c0 c1 c2 c3 c4 c5 c6 c7 c8 c9 ca cb cc cd ce cf t0 t1 t2 t3 t4 t5 hb4 hJ3 hw3 HW2
      go_wp2_with fail
      ((with_reducible refine (HA.out _ hw4).mono ?_); rintro e w5 ⟨rfl, hb5⟩)
      have hw5 := hw4.nx hb5
      go_wp2
      go_ret
      exact ⟨rfl, hw5⟩
end Go.Proofs.Wk
