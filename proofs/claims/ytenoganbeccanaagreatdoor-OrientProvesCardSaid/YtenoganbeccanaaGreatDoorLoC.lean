/- SQUARENESS: the law of proofs, walked. -/
import Derived.Test.YtenoganbeccanaaGreatDoorLoA
namespace Go.Proofs.Wk
open Go.RowKit Mt

structure PfM (w W : World) (d : Or.P3) (sq : Txt) (i j k : Int) : Prop where
  d : W.heap[w.heap.size]? = some (.cells #[.int .i64 d.x, .int .i64 d.y, .int .i64 d.z] 52 (0, 0))
  p : W.heap[w.heap.size + 1]? = some (.cells #[.string ⟨sq.toArray⟩, .int .i64 i, .int .i64 j, .int .i64 k] 89 (0, 0))
  w : Below w.heap.size w W
theorem PfM.later {w W W' : World} {d : Or.P3} {sq : Txt} {i j k : Int} (h : PfM w W d sq i j k) (hb : Below W.heap.size W W') : PfM w W' d sq i j k := ⟨keepD h.d hb, keepD h.p hb, h.w.nx hb⟩
theorem PfM.t {w W : World} {dx dy dz : Int} {sq : Txt} {i j k : Int} (h : PfM w W ⟨dx, dy, dz⟩ sq i j k) : W.cell? ⟨w.heap.size, 0, none⟩ = some (.int .i64 dx) ∧ W.cell? ⟨w.heap.size, 1, none⟩ = some (.int .i64 dy) ∧ W.cell? ⟨w.heap.size, 2, none⟩ = some (.int .i64 dz) ∧
    W.cell? ⟨w.heap.size + 1, 0, none⟩ = some (.string ⟨sq.toArray⟩) ∧ W.cell? ⟨w.heap.size + 1, 1, none⟩ = some (.int .i64 i) ∧ W.cell? ⟨w.heap.size + 1, 2, none⟩ = some (.int .i64 j) ∧ W.cell? ⟨w.heap.size + 1, 3, none⟩ = some (.int .i64 k) :=
  ⟨(c3row h.d).1, (c3row h.d).2.1, (c3row h.d).2.2, (c4row h.p).1, (c4row h.p).2.1, (c4row h.p).2.2.1, (c4row h.p).2.2.2⟩
set_option maxRecDepth 100000 in
set_option maxHeartbeats 4000000 in
theorem proves_law {v : Value} (ls : List Or.P3) (d : Or.P3) (sq : Txt) (i j k : Int) (w : World) (hg : Good w) (S : SlX w v ls) (hln : ls.length ≤ 140737488355328) (hsq : sq.length ≤ 140737488355328) :
    Calls Tryz.prog 10 #[v, spV d, .agg #[.string ⟨sq.toArray⟩, .int .i64 i, .int .i64 j, .int .i64 k]] w (Ret w (.bool true)) := by
  have HFW := Lib.hid (fun W (h : Below w.heap.size w W) => fewS_c ls W (S.later h) hln)
  have HQF := Lib.hid (fun W => Few_q sq W hsq)
  have HAW := Lib.hid (fun W (h : Below w.heap.size w W) => awakeO_c W (hg.later h))
  have HV1 := Lib.hid (fun W (h : Below w.heap.size w W) => VerifyUpright_c ls d sq i j k W (hg.later h) (S.later h) hln hsq)
  have HV2 := Lib.hid (fun W (h : Below w.heap.size w W) => rVerifyUpright_c ls d sq i j k W (S.later h) hln hsq)
  have hz : PfM w ((w.alloc (.cells #[.int .i64 d.x, .int .i64 d.y, .int .i64 d.z] 52)).alloc (.cells #[.string ⟨sq.toArray⟩, .int .i64 i, .int .i64 j, .int .i64 k] 89)) d sq i j k := ⟨keepD (heap_alloc_new w _) (below_al _ _), new2 w _ _, bx2 w _ _⟩
  generalize fewN 6 ls.length = q at *
  generalize vuE ls d sq i j k = r at *
  obtain ⟨rb, re⟩ := r
  obtain ⟨sa, cap, rfl⟩ := S.lenS
  obtain ⟨dx, dy, dz⟩ := d
  have HZ := Lib.hid hz
  clear S hg hln hsq hz
  go_enter Tryz.func10, Tryz.ntmps10
  go_wp2_with fail
  generalize (w.alloc (.cells #[.int .i64 dx, .int .i64 dy, .int .i64 dz] 52)).alloc (.cells #[.string ⟨sq.toArray⟩, .int .i64 i, .int .i64 j, .int .i64 k] 89) = W at *
  ((with_reducible refine (HFW.out _ HZ.out.w).mono ?_); rintro e w1 ⟨rfl, rfl⟩)
  cases q with
  | false =>
    have hB := HZ.out.w
    go_wp2_with fail
    ((with_reducible refine (HAW.out _ hB).mono ?_); rintro e w2 ⟨rfl, hb2⟩)
    have hB2 := hB.nx hb2
    go_wp2
    go_ret
    exact ⟨rfl, hB2⟩
  | true =>
    obtain ⟨d0, d1, d2, p0, p1, p2, p3⟩ := HZ.out.t
    go_wp2_with fail
    ((with_reducible refine (HQF.out _).mono ?_); rintro e w2 ⟨fq, rfl, hb2⟩)
    have HZ2 := Lib.hid (HZ.out.later hb2)
    clear HZ hb2 d0 d1 d2 p0 p1 p2 p3 HQF HFW
    cases fq with
    | false =>
      have hB := HZ2.out.w
      go_wp2_with fail
      ((with_reducible refine (HAW.out _ hB).mono ?_); rintro e w3 ⟨rfl, hb3⟩)
      have hB3 := hB.nx hb3
      go_wp2
      go_ret
      exact ⟨rfl, hB3⟩
    | true =>
      obtain ⟨d0, d1, d2, p0, p1, p2, p3⟩ := HZ2.out.t
      go_wp2_with fail
      ((with_reducible refine (HV1.out _ HZ2.out.w).mono ?_); rintro e w3 ⟨rfl, hb3⟩)
      have HZ3 := Lib.hid (HZ2.out.later hb3)
      clear HZ2 hb3 d0 d1 d2 p0 p1 p2 p3 HV1
      obtain ⟨d0, d1, d2, p0, p1, p2, p3⟩ := HZ3.out.t
      go_wp2_with fail
      ((with_reducible refine (HV2.out _ HZ3.out.w).mono ?_); rintro e w4 ⟨rfl, hb4⟩)
      have hB4 := HZ3.out.w.nx hb4
      clear HZ3 hb4 d0 d1 d2 p0 p1 p2 p3 HV2
      go_wp2_with fail
      ((with_reducible refine (HAW.out _ hB4).mono ?_); rintro e w5 ⟨rfl, hb5⟩)
      have hB5 := hB4.nx hb5
      go_wp2
      go_ret
      exact ⟨ret_bool (by simp), hB5⟩
end Go.Proofs.Wk
