/- POSITION: the statement Measures. -/
import Derived.Test.YtphbikfkeinmnaaGreatDoorPjC
namespace Go.Proofs.Wk
open Go.RowKit Mt Po

/-- Deviations, or an error and none. -/
def DvR (w : World) (L : List Txt) (E : Int) (e : Ending) (w' : World) : Prop := ∃ v, e = .returned (.tuple #[v, .int .i64 E]) ∧ SlS w' v L ∧ Below w.heap.size w w'
theorem dev_one (c : Ca) (fv dv sv : Value) (tt : TT) (ds : List Dt) (ls : List Sp) (n : Int) (w : World) (hg : Good w) (S : CaS w c fv dv sv ds ls) (hl : ∀ l ∈ tt.l, l.length ≤ 140737488355328) (hs : ttS tt = true) :
    ∃ (L : List Txt) (E : Int), L.length ≤ 3 ∧ (∀ W, Below w.heap.size w W → Calls Tryz.prog 21 #[caV c fv dv sv, ttV tt, .int .i64 n] W (DvR W L E)) ∧ (∀ W, Below w.heap.size w W → Calls Tryz.prog 22 #[caV c fv dv sv, ttV tt, .int .i64 n] W (DvR W L E)) := by
  rcases dev_all c fv dv sv tt ds ls n w hg S hl hs with ⟨E, H1, H2⟩ | ⟨L, h3, H1, H2⟩
  · refine ⟨[], E, Nat.zero_le _, fun W h => (H1 W h).mono ?_, fun W h => (H2 W h).mono ?_⟩ <;> rintro e w' ⟨rfl, hb⟩ <;> exact ⟨_, rfl, Or.inl ⟨none, 0, rfl, rfl⟩, hb⟩
  · refine ⟨L, 0, h3, fun W h => (H1 W h).mono ?_, fun W h => (H2 W h).mono ?_⟩ <;> rintro e w' ⟨v, rfl, hS, hb⟩ <;> exact ⟨v, rfl, hS, hb⟩
set_option maxRecDepth 100000 in
set_option maxHeartbeats 8000000 in
theorem measures_z (c : Ca) (fv dv sv : Value) (tt : TT) (ds : List Dt) (ls : List Sp) (n : Int) (w : World) (hg : Good w) (S : CaS w c fv dv sv ds ls) (hl : ∀ l ∈ tt.l, l.length ≤ 140737488355328) (HZ : ∀ W, Calls Tryz.prog 28 #[] W (Ret W (ttV zTT'))) :
    Calls Tryz.prog 7 #[caV c fv dv sv, ttV tt, .int .i64 n] w (Ret w (.bool true)) := by
  have HF := Lib.hid (fun W (h : Below w.heap.size w W) => rfew_c c fv dv sv ds ls W (S.later h))
  have HS := Lib.hid (fun W => rtorShort_c tt W)
  have HA := Lib.hid (fun W (h : Below w.heap.size w W) => awake_z W (hg.later h) HZ)
  have HW := Lib.hid (dev_one c fv dv sv tt ds ls n w hg S hl)
  have HC1 := Lib.hid (fun W (h : Below w.heap.size w W) => poCheck_c c fv dv sv ds ls W (S.later h))
  have HC2 := Lib.hid (fun W (h : Below w.heap.size w W) => rpoCheck_c c fv dv sv ds ls W (S.later h))
  generalize caE c.f c.x c.b ds ls = CE at *
  have hJ := Tw.new w (caC c fv dv sv).toList (ttC tt).toList 34 38
  generalize ttS tt = SB at *
  obtain ⟨⟨nm, kind, axis, ⟨ax, ay, az⟩, lo, fhi⟩, ⟨xk, disc, tol, mat⟩, b0⟩ := c
  simp only at hJ HF HW HC1 HC2
  clear S hg hl HZ
  go_enter Tryz.func7, Tryz.ntmps7
  go_upto_region 1 with fail
  generalize hW0 : (w.alloc (.cells #[.string ⟨nm.toArray⟩, .int .i64 kind, .int .i64 axis, .int .i64 ax, .int .i64 ay, .int .i64 az, .int .i64 lo, .int .i64 fhi, fv, .int .i64 xk, .bool disc, .int .i64 tol, .int .i64 mat, dv, sv, .int .i64 b0] 34)).alloc (.cells (ttC tt) 38) = W0 at *
  clear hW0
  generalize w.heap.size + 1 = gt at *
  obtain ⟨c0, c1, c2, c3, c4, c5, c6, c7, c8, c9, ca, cb, cc, cd, ce, cf⟩ := c16row hJ.a
  go_wp2_with fail
  ((with_reducible refine (HF.out _ hJ.w).mono ?_); rintro e w1 ⟨b, rfl, hb1⟩)
  have hJ1 := hJ.later hb1
  have hw1 := hJ1.w
  clear c0 c1 c2 c3 c4 c5 c6 c7 c8 c9 ca cb cc cd ce cf hb1 hJ HF
  cases b with
  | false =>
    clear hJ1 HS HW
    go_wp2_with fail
    ((with_reducible refine (HA.out _ hw1).mono ?_); rintro e w2 ⟨rfl, hb2⟩)
    have hw2 := hw1.nx hb2
    go_wp2
    go_ret
    exact ⟨rfl, hw2⟩
  | true =>
    obtain ⟨t0, t1, t2, t3, t4, t5⟩ := c6row hJ1.b
    go_wp2_with fail
    ((with_reducible refine (HS.out _).mono ?_); rintro e w2 ⟨rfl, hb2⟩)
    have hJ2 := hJ1.later hb2
    have hw2 := hJ2.w
    clear t0 t1 t2 t3 t4 t5 hb2 hJ1 hw1 HS
    cases SB with
    | false =>
      clear hJ2 HW
      go_wp2_with fail
      ((with_reducible refine (HA.out _ hw2).mono ?_); rintro e w3 ⟨rfl, hb3⟩)
      have hw3 := hw2.nx hb3
      go_wp2
      go_ret
      exact ⟨rfl, hw3⟩
    | true =>
      obtain ⟨L, E, h3, H1, H2⟩ := HW.out rfl
      obtain ⟨CS, hCS⟩ : ∃ X : Array Value, #[.string ⟨nm.toArray⟩, .int .i64 kind, .int .i64 axis, .int .i64 ax, .int .i64 ay, .int .i64 az, .int .i64 lo, .int .i64 fhi, fv, .int .i64 xk, .bool disc, .int .i64 tol, .int .i64 mat, dv, sv, .int .i64 b0] = X := ⟨_, rfl⟩
      obtain ⟨TS, hTS⟩ : ∃ X : Array Value, ttC tt = X := ⟨_, rfl⟩
      have HW1 : Hid (∀ W, Below w.heap.size w W → Calls Tryz.prog 21 #[.agg CS, .agg TS, .int .i64 n] W (DvR W L E)) := Lib.hid (by subst hCS hTS; exact H1)
      have HW2 : Hid (∀ W, Below w.heap.size w W → Calls Tryz.prog 22 #[.agg CS, .agg TS, .int .i64 n] W (DvR W L E)) := Lib.hid (by subst hCS hTS; exact H2)
      have HSA : Hid ((Tryz.prog.info? 34).map (·.size) = some CS.size) := Lib.hid (by subst hCS; kernel_rfl)
      have HSB : Hid ((Tryz.prog.info? 38).map (·.size) = some TS.size) := Lib.hid (by subst hTS; kernel_rfl)
      have HRA1 : Hid (w2.heap[w.heap.size]? = some (.cells CS 34 (0, 0))) := Lib.hid (by subst hCS; exact hJ2.a)
      have HRB1 : Hid (w2.heap[gt]? = some (.cells TS 38 (0, 0))) := Lib.hid (by subst hTS; exact hJ2.b)
      clear H1 H2 HW hTS
      go_wp2_with (first | (with_reducible refine wpList_load_row rfl 34 _ rfl w.heap.size (by kernel_rfl) _ CS _ _ HRA1.out Tryz.underlying34 rfl HSA.out ?_) | (with_reducible refine wpList_load_row rfl 38 _ rfl gt (by kernel_rfl) _ TS _ _ HRB1.out Tryz.underlying38 rfl HSB.out ?_))
      ((with_reducible refine (HW1.out _ hw2).mono ?_); rintro e w3 ⟨va, rfl, hS1, hb_w3⟩)
      have hJ3 := hJ2.later hb_w3
      have hw3 := hJ3.w
      have HRA2 := Lib.hid (keepD HRA1.out hb_w3)
      have HRB2 := Lib.hid (keepD HRB1.out hb_w3)
      clear hJ2 HW1 HRA1 HRB1
      go_wp2_with (first | (with_reducible refine wpList_load_row rfl 34 _ rfl w.heap.size (by kernel_rfl) _ CS _ _ HRA2.out Tryz.underlying34 rfl HSA.out ?_) | (with_reducible refine wpList_load_row rfl 38 _ rfl gt (by kernel_rfl) _ TS _ _ HRB2.out Tryz.underlying38 rfl HSB.out ?_))
      ((with_reducible refine (HW2.out _ hw3).mono ?_); rintro e w4 ⟨vb, rfl, hS2, hb_w4⟩)
      have HJ4 := Lib.hid (hJ3.later hb_w4)
      have HW4 := Lib.hid HJ4.out.w
      have HS1 := Lib.hid (hS1.later hb_w4)
      have HS2 := Lib.hid hS2
      have H3 := Lib.hid h3
      clear hJ3 HW2 HRA2 HRB2 hS1 hS2 hb_w3 hb_w4 hw2 hw3 HSA HSB hCS h3
      have HALL := Lib.hid (fun (W : World) (h : Below w4.heap.size w4 W) => by
        have hJ := HJ4.out.later h
        obtain ⟨c0, c1, c2, c3, c4, c5, c6, c7, c8, c9, ca, cb, cc, cd, ce, cf⟩ := c16row hJ.a
        exact (⟨c0, c1, c2, c3, c4, c5, c6, c7, c8, c9, ca, cb, cc, cd, ce, cf, h⟩ : W.cell? ⟨w.heap.size, 0, none⟩ = some (.string ⟨nm.toArray⟩) ∧ W.cell? ⟨w.heap.size, 1, none⟩ = some (.int .i64 kind) ∧ W.cell? ⟨w.heap.size, 2, none⟩ = some (.int .i64 axis) ∧ W.cell? ⟨w.heap.size, 3, none⟩ = some (.int .i64 ax) ∧ W.cell? ⟨w.heap.size, 4, none⟩ = some (.int .i64 ay) ∧ W.cell? ⟨w.heap.size, 5, none⟩ = some (.int .i64 az) ∧ W.cell? ⟨w.heap.size, 6, none⟩ = some (.int .i64 lo) ∧ W.cell? ⟨w.heap.size, 7, none⟩ = some (.int .i64 fhi) ∧ W.cell? ⟨w.heap.size, 8, none⟩ = some (fv) ∧ W.cell? ⟨w.heap.size, 9, none⟩ = some (.int .i64 xk) ∧ W.cell? ⟨w.heap.size, 10, none⟩ = some (.bool disc) ∧ W.cell? ⟨w.heap.size, 11, none⟩ = some (.int .i64 tol) ∧ W.cell? ⟨w.heap.size, 12, none⟩ = some (.int .i64 mat) ∧ W.cell? ⟨w.heap.size, 13, none⟩ = some (dv) ∧ W.cell? ⟨w.heap.size, 14, none⟩ = some (sv) ∧ W.cell? ⟨w.heap.size, 15, none⟩ = some (.int .i64 b0) ∧ Below w4.heap.size w4 W))
      have hB : Below w4.heap.size w4 w4 := Below.refl _ _
      go_upto_region 5 with fail
      go_region_held3 (fun W => W.cell? ⟨w.heap.size, 0, none⟩ = some (.string ⟨nm.toArray⟩) ∧ W.cell? ⟨w.heap.size, 1, none⟩ = some (.int .i64 kind) ∧ W.cell? ⟨w.heap.size, 2, none⟩ = some (.int .i64 axis) ∧ W.cell? ⟨w.heap.size, 3, none⟩ = some (.int .i64 ax) ∧ W.cell? ⟨w.heap.size, 4, none⟩ = some (.int .i64 ay) ∧ W.cell? ⟨w.heap.size, 5, none⟩ = some (.int .i64 az) ∧ W.cell? ⟨w.heap.size, 6, none⟩ = some (.int .i64 lo) ∧ W.cell? ⟨w.heap.size, 7, none⟩ = some (.int .i64 fhi) ∧ W.cell? ⟨w.heap.size, 8, none⟩ = some (fv) ∧ W.cell? ⟨w.heap.size, 9, none⟩ = some (.int .i64 xk) ∧ W.cell? ⟨w.heap.size, 10, none⟩ = some (.bool disc) ∧ W.cell? ⟨w.heap.size, 11, none⟩ = some (.int .i64 tol) ∧ W.cell? ⟨w.heap.size, 12, none⟩ = some (.int .i64 mat) ∧ W.cell? ⟨w.heap.size, 13, none⟩ = some (dv) ∧ W.cell? ⟨w.heap.size, 14, none⟩ = some (sv) ∧ W.cell? ⟨w.heap.size, 15, none⟩ = some (.int .i64 b0) ∧ Below w4.heap.size w4 W)
        (first | with_reducible exact HALL.out _ B4 | with_reducible exact HALL.out _ B3 | with_reducible exact HALL.out _ B2 | with_reducible exact HALL.out _ B1 | with_reducible exact HALL.out _ hB | with_reducible exact HALL.out _ hB.drew)
        (first
          | (go_at_call 23; (first | (with_reducible refine (HC1.out _ (HW4.out.nx hB.drew)).mono ?_) | (with_reducible refine (HC1.out _ HW4.out).mono ?_)); rintro e v1 ⟨rfl, hb1⟩; (first | (with_reducible have B1 := hB.drew.nx hb1) | (with_reducible have B1 := hB.nx hb1)))
          | (go_at_call 24; (with_reducible refine (HC2.out _ (HW4.out.nx B1)).mono ?_); rintro e v2 ⟨rfl, hb2⟩; have B2 := B1.nx hb2)
          | (go_at_call 25; (with_reducible refine (rEq_c L _ (HS1.out.later B2) (HS2.out.later B2) H3.out).mono ?_); rintro e v3 ⟨rfl, hb3⟩; have B3 := B2.nx hb3)
          | (go_at_call 13; (with_reducible refine (HA.out _ (HW4.out.nx B3)).mono ?_); rintro e v4 ⟨rfl, hb4⟩; have B4 := B3.nx hb4)
          | fail)
      all_goals
        have HB := Lib.hid (HW4.out.nx B4)
        clear hb1 hb2 hb3 hb4 B1 B2 B3 B4 hB
        go_wp2
        go_ret
        exact ⟨rfl, HB.out⟩
end Go.Proofs.Wk
