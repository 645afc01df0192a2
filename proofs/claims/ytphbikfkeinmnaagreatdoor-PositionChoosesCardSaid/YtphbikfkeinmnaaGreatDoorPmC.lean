/- POSITION: the statement Chooses. -/
import Derived.Test.YtphbikfkeinmnaaGreatDoorPP
import Derived.Test.YtphbikfkeinmnaaGreatDoorPM
namespace Go.Proofs.Wk
open Go.RowKit Mt Po

set_option maxRecDepth 100000 in
set_option maxHeartbeats 8000000 in
theorem chooses_z {v : Value} (c : Ca) (fv dv sv : Value) (ts : List TT) (ds : List Dt) (ls : List Sp) (w : World) (hg : Good w) (S : CaS w c fv dv sv ds ls) (T : SlX w v ts) (hl : ∀ t ∈ ts, ∀ l ∈ t.l, l.length ≤ 140737488355328) (HZ : ∀ W, Calls Tryz.prog 28 #[] W (Ret W (ttV zTT'))) :
    Calls Tryz.prog 10 #[caV c fv dv sv, v] w (Ret w (.bool true)) := by
  have HF := Lib.hid (fun W (h : Below w.heap.size w W) => rfew_c c fv dv sv ds ls W (S.later h))
  have HT := Lib.hid (fun W (h : Below w.heap.size w W) => rfewT_c ts W (T.later h))
  have HA := Lib.hid (fun W (h : Below w.heap.size w W) => awake_z W (hg.later h) HZ)
  have HW := Lib.hid (choose_one c fv dv sv ts ds ls w hg S T hl)
  obtain ⟨PT, hPT⟩ : ∃ P : Prop, ((ts.length ≤ 6 ∧ ∀ t ∈ ts, ttS t = true) ∨ 256 < ts.length) = P := ⟨_, rfl⟩
  rw [hPT] at HT HW
  obtain ⟨sa, cap, rfl, -⟩ := T.ttF
  generalize ts.length = n at *
  have hJ := On.new w (caC c fv dv sv).toList 34
  obtain ⟨⟨nm, kind, axis, ⟨ax, ay, az⟩, lo, fhi⟩, ⟨xk, disc, tol, mat⟩, b0⟩ := c
  simp only at hJ HF HW
  clear S T hg hl HZ hPT
  go_enter Tryz.func10, Tryz.ntmps10
  go_upto_region 1 with fail
  generalize hW0 : w.alloc (.cells #[.string ⟨nm.toArray⟩, .int .i64 kind, .int .i64 axis, .int .i64 ax, .int .i64 ay, .int .i64 az, .int .i64 lo, .int .i64 fhi, fv, .int .i64 xk, .bool disc, .int .i64 tol, .int .i64 mat, dv, sv, .int .i64 b0] 34) = W0 at *
  clear hW0
  obtain ⟨c0, c1, c2, c3, c4, c5, c6, c7, c8, c9, ca, cb, cc, cd, ce, cf⟩ := c16row hJ.a
  go_wp2_with fail
  ((with_reducible refine (HF.out _ hJ.w).mono ?_); rintro e w1 ⟨b, rfl, hb1⟩)
  have hJ1 := hJ.later hb1
  have hw1 := hJ1.w
  clear c0 c1 c2 c3 c4 c5 c6 c7 c8 c9 ca cb cc cd ce cf hb1 hJ HF
  cases b with
  | false =>
    clear hJ1 HT HW
    go_wp2_with fail
    ((with_reducible refine (HA.out _ hw1).mono ?_); rintro e wz ⟨rfl, hbz⟩)
    have hwz := (hw1).nx hbz
    go_wp2
    go_ret
    exact ⟨rfl, hwz⟩
  | true =>
    go_wp2_with fail
    ((with_reducible refine (HT.out _ hw1).mono ?_); rintro e w2 ⟨b, rfl, hpt, hb2⟩)
    have hJ2 := hJ1.later hb2
    have hw2 := hJ2.w
    have HPT := Lib.hid hpt
    clear hb2 hJ1 hw1 HT hpt
    cases b with
    | false =>
      clear hJ2 HW HPT
      go_wp2_with fail
      ((with_reducible refine (HA.out _ hw2).mono ?_); rintro e wz ⟨rfl, hbz⟩)
      have hwz := (hw2).nx hbz
      go_wp2
      go_ret
      exact ⟨rfl, hwz⟩
    | true =>
      obtain ⟨I, L, B, E, hL, H1, H2⟩ := HW.out (HPT.out rfl)
      obtain ⟨CS, hCS⟩ : ∃ X : Array Value, #[.string ⟨nm.toArray⟩, .int .i64 kind, .int .i64 axis, .int .i64 ax, .int .i64 ay, .int .i64 az, .int .i64 lo, .int .i64 fhi, fv, .int .i64 xk, .bool disc, .int .i64 tol, .int .i64 mat, dv, sv, .int .i64 b0] = X := ⟨_, rfl⟩
      have HW1 : Hid (∀ W, Below w.heap.size w W → Calls Tryz.prog 31 #[.agg CS, .slice sa n cap] W (CoR W I L B E)) := Lib.hid (by subst hCS; exact H1)
      have HW2 : Hid (∀ W, Below w.heap.size w W → Calls Tryz.prog 36 #[.agg CS, .slice sa n cap] W (CoR W I L B E)) := Lib.hid (by subst hCS; exact H2)
      have HSA : Hid ((Tryz.prog.info? 34).map (·.size) = some CS.size) := Lib.hid (by subst hCS; kernel_rfl)
      have HRA1 : Hid (w2.heap[w.heap.size]? = some (.cells CS 34 (0, 0))) := Lib.hid (by subst hCS; exact hJ2.a)
      have HL := Lib.hid hL
      clear H1 H2 HW hCS hJ2 hL HPT
      go_wp2_with (with_reducible refine wpList_load_row rfl 34 _ rfl w.heap.size (by kernel_rfl) _ CS _ _ HRA1.out Tryz.underlying34 rfl HSA.out ?_)
      ((with_reducible refine (HW1.out _ hw2).mono ?_); rintro e w3 ⟨va, rfl, hS1, hb3⟩)
      have HRA2 := Lib.hid (keepD HRA1.out hb3)
      have hw3 := hw2.nx hb3
      clear HRA1 HW1 hw2 hb3
      go_wp2_with (with_reducible refine wpList_load_row rfl 34 _ rfl w.heap.size (by kernel_rfl) _ CS _ _ HRA2.out Tryz.underlying34 rfl HSA.out ?_)
      ((with_reducible refine (HW2.out _ hw3).mono ?_); rintro e w4 ⟨vb, rfl, hS2, hb4⟩)
      have hw4 := hw3.nx hb4
      have hE := eqN_c L w4 (hS1.later hb4) hS2 HL.out
      have HE := Lib.hid hE
      clear HRA2 HW2 hw3 hb4 hS1 hS2 hE HSA HL
      cases B
      all_goals
        go_wp2_with fail
        ((with_reducible refine HE.out.mono ?_); rintro e w5 ⟨rfl, hb5⟩)
        have hw5 := hw4.nx hb5
        go_wp2_with fail
        ((with_reducible refine (HA.out _ hw5).mono ?_); rintro e w6 ⟨rfl, hb6⟩)
        have hw6 := hw5.nx hb6
        go_wp2
        go_ret
        exact ⟨rfl, hw6⟩
theorem chooses_law {v : Value} (c : Ca) (fv dv sv : Value) (ts : List TT) (ds : List Dt) (ls : List Sp) (w : World) (hg : Good w) (S : CaS w c fv dv sv ds ls) (T : SlX w v ts) (hl : ∀ t ∈ ts, ∀ l ∈ t.l, l.length ≤ 140737488355328) :
    Calls Tryz.prog 10 #[caV c fv dv sv, v] w (Ret w (.bool true)) := chooses_z c fv dv sv ts ds ls w hg S T hl fun W => zero_c W
end Go.Proofs.Wk
