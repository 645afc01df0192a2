/- POSITION: the statement Nests. -/
import Derived.Test.YtphbikfkeinmnaaGreatDoorPT
import Derived.Test.YtphbikfkeinmnaaGreatDoorPmY
namespace Go.Proofs.Wk
open Go.RowKit Mt Po

theorem nest_three (c : Ca) (fv dv sv : Value) (tt : TT) (ds : List Dt) (ls : List Sp) (w : World) (hg : Good w) (S : CaS w c fv dv sv ds ls) (hl : ∀ l ∈ tt.l, l.length ≤ 140737488355328) (hR : RtP c ds ls [tt]) :
    (0 ≤ c.x.tol ∧ c.x.tol ≤ 100000) ∧ (0 ≤ c.b ∧ c.b ≤ 100000) ∧ (c.x.disc = true → c.x.tol + c.b ≤ 50000 → ∃ A B D : Bool, (A = true → B = true) ∧ (B = true → D = true) ∧
      (∀ W, Below w.heap.size w W → Calls Tryz.prog 16 #[caV c fv dv sv, ttV tt] W (Ret W (.tuple #[.bool A, .int .i64 0]))) ∧
      (∀ W, Below w.heap.size w W → Calls Tryz.prog 16 #[caV (boxC c) fv dv sv, ttV tt] W (Ret W (.tuple #[.bool B, .int .i64 0]))) ∧
      (∀ W, Below w.heap.size w W → Calls Tryz.prog 16 #[caV (bonC c (c.b + (c.x.tol + c.b))) fv dv sv, ttV tt] W (Ret W (.tuple #[.bool D, .int .i64 0])))) := by
  obtain ⟨t, rfl, R⟩ := hR.rt (List.mem_singleton.2 rfl) hl
  obtain ⟨-, -, -, h1, h2⟩ := R.ok
  refine ⟨h1, h2, fun hd hs => ?_⟩
  have hn := nest_law R hd (w := c.x.tol + c.b)
  have hb : 0 ≤ c.b + (c.x.tol + c.b) ∧ c.b + (c.x.tol + c.b) ≤ 100000 := by omega
  have e : c.x.tol + (c.b + (c.x.tol + c.b)) = (c.x.tol + c.b) + (c.x.tol + c.b) := by omega
  refine ⟨_, _, _, hn.1, hn.2, fun W h => within_is hg S R W h, fun W h => within_is hg S.box R.box W h, fun W h => ?_⟩
  have := within_is hg (S.bon (c.b + (c.x.tol + c.b))) (R.bon hb) W h
  rw [wsQ_bon, show (bonC c (c.b + (c.x.tol + c.b))).x.tol + (bonC c (c.b + (c.x.tol + c.b))).b = c.x.tol + (c.b + (c.x.tol + c.b)) from rfl, e] at this
  exact this
set_option maxRecDepth 100000 in
set_option maxHeartbeats 8000000 in
theorem nests_z (c : Ca) (fv dv sv : Value) (tt : TT) (ds : List Dt) (ls : List Sp) (w : World) (hg : Good w) (S : CaS w c fv dv sv ds ls) (hl : ∀ l ∈ tt.l, l.length ≤ 140737488355328) (HZ : ∀ W, Calls Tryz.prog 28 #[] W (Ret W (ttV zTT'))) :
    Calls Tryz.prog 5 #[caV c fv dv sv, ttV tt] w (Ret w (.bool true)) := by
  have HR := Lib.hid (right_one c fv dv sv tt ds ls w S hl)
  have HA := Lib.hid (fun W (h : Below w.heap.size w W) => awake_z W (hg.later h) HZ)
  have HN := Lib.hid (nest_three c fv dv sv tt ds ls w hg S hl)
  have hJ := Tw.new w (caC c fv dv sv).toList (ttC tt).toList 34 38
  generalize RtP c ds ls [tt] = PR at *
  obtain ⟨fa, fn, fc, da, dn, dc, xa, xn, xc, rfl, rfl, rfl⟩ := S.forms
  obtain ⟨⟨nm, kind, axis, ⟨ax, ay, az⟩, lo, fhi⟩, ⟨xk, disc, tol, mat⟩, b0⟩ := c
  simp only at hJ HR HN
  clear S hg hl HZ
  go_enter Tryz.func5, Tryz.ntmps5
  go_upto_region 1 with fail
  generalize hW0 : (w.alloc (.cells #[.string ⟨nm.toArray⟩, .int .i64 kind, .int .i64 axis, .int .i64 ax, .int .i64 ay, .int .i64 az, .int .i64 lo, .int .i64 fhi, (.slice fa fn fc), .int .i64 xk, .bool disc, .int .i64 tol, .int .i64 mat, (.slice da dn dc), (.slice xa xn xc), .int .i64 b0] 34)).alloc (.cells (ttC tt) 38) = W0 at *
  clear hW0
  generalize w.heap.size + 1 = gt at *
  obtain ⟨c0, c1, c2, c3, c4, c5, c6, c7, c8, c9, ca, cb, cc, cd, ce, cf⟩ := c16row hJ.a
  obtain ⟨t0, t1, t2, t3, t4, t5⟩ := c6row hJ.b
  have hal := below_al W0 (.cells (ttC tt) 38)
  have hT := SlX.one W0 tt
  go_wp2_with fail
  ((with_reducible refine (HR.out _ _ (hJ.w.nx hal) hT).mono ?_); rintro e w1 ⟨b, rfl, hr, hb1⟩)
  have hJ1 := hJ.later (hal.nx hb1)
  have hw1 := hJ1.w
  have HRR := Lib.hid hr
  clear c0 c1 c2 c3 c4 c5 c6 c7 c8 c9 ca cb cc cd ce cf t0 t1 t2 t3 t4 t5 hb1 hJ HR hal hT hr
  cases b with
  | false =>
    clear hJ1 HRR HN
    go_wp2_with fail
    ((with_reducible refine (HA.out _ hw1).mono ?_); rintro e wz ⟨rfl, hbz⟩)
    have hwz := (hw1).nx hbz
    go_wp2
    go_ret
    exact ⟨rfl, hwz⟩
  | true =>
    obtain ⟨ht, hb, H0⟩ := HN.out (HRR.out rfl)
    have HL := Lib.hid H0
    clear HRR HN H0
    obtain ⟨c0, c1, c2, c3, c4, c5, c6, c7, c8, c9, ca, cb, cc, cd, ce, cf⟩ := c16row hJ1.a
    clear c0 c1 c2 c3 c4 c5 c6 c7 c8 c9 cc cd ce
    cases disc with
    | false =>
      clear hJ1 HL ht hb cb cf
      go_wp2_with fail
      ((with_reducible refine (HA.out _ hw1).mono ?_); rintro e wz ⟨rfl, hbz⟩)
      have hwz := (hw1).nx hbz
      go_wp2
      go_ret
      exact ⟨rfl, hwz⟩
    | true =>
      have hw : IntKind.i64.wrap (tol + b0) = tol + b0 := IntWalk.i64_in _ (by omega)
      have hw' : IntKind.i64.wrap (b0 + (tol + b0)) = b0 + (tol + b0) := IntWalk.i64_in _ (by omega)
      obtain ⟨s, hs⟩ : ∃ s, tol + b0 = s := ⟨_, rfl⟩
      replace hw := hw.trans hs
      rw [hs] at hw'
      by_cases hq : s ≤ 50000
      rotate_left
      · have hq2 : (50000 : Int) < s := by omega
        clear hJ1 HL ht hb hs hq hw'
        go_wp2_with fail
        ((with_reducible refine (HA.out _ hw1).mono ?_); rintro e wz ⟨rfl, hbz⟩)
        have hwz := (hw1).nx hbz
        go_wp2
        go_ret
        exact ⟨rfl, hwz⟩
      obtain ⟨A, B, D, hAB, hBD, G1, G2, G3⟩ := HL.out rfl (by omega)
      have hq2 : ¬ (50000 : Int) < s := by omega
      obtain ⟨HC1, HC2, HC3⟩ : Hid (∀ W, Below w.heap.size w W → Calls Tryz.prog 16 #[.agg #[.string ⟨nm.toArray⟩, .int .i64 kind, .int .i64 axis, .int .i64 ax, .int .i64 ay, .int .i64 az, .int .i64 lo, .int .i64 fhi, (.slice fa fn fc), .int .i64 xk, .bool true, .int .i64 tol, .int .i64 mat, (.slice da dn dc), (.slice xa xn xc), .int .i64 b0], ttV tt] W (Ret W (.tuple #[.bool A, .int .i64 0]))) ∧ Hid (∀ W, Below w.heap.size w W → Calls Tryz.prog 16 #[.agg #[.string ⟨nm.toArray⟩, .int .i64 kind, .int .i64 axis, .int .i64 ax, .int .i64 ay, .int .i64 az, .int .i64 lo, .int .i64 fhi, (.slice fa fn fc), .int .i64 xk, .bool false, .int .i64 tol, .int .i64 mat, (.slice da dn dc), (.slice xa xn xc), .int .i64 b0], ttV tt] W (Ret W (.tuple #[.bool B, .int .i64 0]))) ∧ Hid (∀ W, Below w.heap.size w W → Calls Tryz.prog 16 #[.agg #[.string ⟨nm.toArray⟩, .int .i64 kind, .int .i64 axis, .int .i64 ax, .int .i64 ay, .int .i64 az, .int .i64 lo, .int .i64 fhi, (.slice fa fn fc), .int .i64 xk, .bool true, .int .i64 tol, .int .i64 mat, (.slice da dn dc), (.slice xa xn xc), .int .i64 (b0 + s)], ttV tt] W (Ret W (.tuple #[.bool D, .int .i64 0]))) := by
        subst hs
        exact ⟨Lib.hid G1, Lib.hid G2, Lib.hid G3⟩
      have HAB := Lib.hid hAB
      have HBD := Lib.hid hBD
      have HW := Lib.hid hw
      have HW' := Lib.hid hw'
      have HJ1 := Lib.hid hJ1
      have HW1 := Lib.hid hw1
      clear G1 G2 G3 HL ht hb hs hAB hBD hJ1 hw1 hw'
      go_upto_region 3 with fail
      clear ca cb cf hq hq2 hw
      go_cut [5, 6] (fun s5 s6 wx => ∃ g5 g6 : Nat, s5 = .pointer (some ⟨g5, 0, none⟩) ∧ s6 = .pointer (some ⟨g6, 0, none⟩) ∧ w1.heap.size ≤ g5 ∧ w1.heap.size ≤ g6 ∧ g5 ≠ g6 ∧ Hid (wx.heap[g5]? = some (.cells #[.string ⟨nm.toArray⟩, .int .i64 kind, .int .i64 axis, .int .i64 ax, .int .i64 ay, .int .i64 az, .int .i64 lo, .int .i64 fhi, (.slice fa fn fc), .int .i64 xk, .bool true, .int .i64 tol, .int .i64 mat, (.slice da dn dc), (.slice xa xn xc), .int .i64 b0] 34 (0, 0))) ∧ Hid (wx.heap[g6]? = some (.cells #[.string ⟨nm.toArray⟩, .int .i64 kind, .int .i64 axis, .int .i64 ax, .int .i64 ay, .int .i64 az, .int .i64 lo, .int .i64 fhi, (.slice fa fn fc), .int .i64 xk, .bool true, .int .i64 tol, .int .i64 mat, (.slice da dn dc), (.slice xa xn xc), .int .i64 b0] 34 (0, 0))) ∧ Hid (Below w1.heap.size w1 wx))
      case first =>
        have r1 := HJ1.out.a
        have hsz1 : (Tryz.prog.info? 34).map (·.size) = some (#[.string ⟨nm.toArray⟩, .int .i64 kind, .int .i64 axis, .int .i64 ax, .int .i64 ay, .int .i64 az, .int .i64 lo, .int .i64 fhi, (.slice fa fn fc), .int .i64 xk, .bool true, .int .i64 tol, .int .i64 mat, (.slice da dn dc), (.slice xa xn xc), .int .i64 b0] : Array Value).size := by kernel_rfl
        refine wp_region_noPanic ?_
        refine copyN (by rfl) (fun _ _ _ _ _ h => h) w.heap.size w.heap.size (by rfl) (by rfl) #[.string ⟨nm.toArray⟩, .int .i64 kind, .int .i64 axis, .int .i64 ax, .int .i64 ay, .int .i64 az, .int .i64 lo, .int .i64 fhi, (.slice fa fn fc), .int .i64 xk, .bool true, .int .i64 tol, .int .i64 mat, (.slice da dn dc), (.slice xa xn xc), .int .i64 b0] #[.string ⟨nm.toArray⟩, .int .i64 kind, .int .i64 axis, .int .i64 ax, .int .i64 ay, .int .i64 az, .int .i64 lo, .int .i64 fhi, (.slice fa fn fc), .int .i64 xk, .bool true, .int .i64 tol, .int .i64 mat, (.slice da dn dc), (.slice xa xn xc), .int .i64 b0] zcC zcC r1 r1 (fun W h => run_loadVar_row W _ _ _ _ _ _ h Tryz.underlying34 rfl hsz1) (fun W h => run_loadVar_row W _ _ _ _ _ _ h Tryz.underlying34 rfl hsz1) hsz1 hsz1 (by rfl) (by rfl) (by kernel_rfl) (by kernel_rfl)
          (fun o ho {ρ} W => al_case o ho W) (fun o ho {ρ} W => al_case o ho W) (fun g5 g6 W k5 k6 k56 K5 K6 KB => NoPanic.normal ?_)
        simp only [Act.put, List.setIfInBounds_toArray, List.set_cons_zero, List.set_cons_succ]
        go_wp2
        go_meet
        exact ⟨g5, g6, rfl, rfl, k5, k6, k56, Lib.hid K5, Lib.hid K6, Lib.hid KB⟩
      case rest =>
      as_aux_lemma =>
      obtain ⟨g5, g6, rfl, rfl, h5, h6, h56, H5, H6, HB⟩ := hcut
      have HJ2 := Lib.hid (HJ1.out.later HB.out)
      have l1 := HJ1.out.lt1
      have l2 := HJ1.out.lt2
      have n1 : w.heap.size ≠ g5 := by omega
      have n2 : w.heap.size ≠ g6 := by omega
      have n3 : gt ≠ g5 := by omega
      have n4 : gt ≠ g6 := by omega
      have n5 : w.heap.size ≤ g5 := by omega
      have n6 : w.heap.size ≤ g6 := by omega
      have N := Lib.hid (show w.heap.size ≠ g5 ∧ w.heap.size ≠ g6 ∧ gt ≠ g5 ∧ gt ≠ g6 ∧ g5 ≠ g6 ∧ w.heap.size ≤ g5 ∧ w.heap.size ≤ g6 from ⟨n1, n2, n3, n4, h56, n5, n6⟩)
      clear l1 l2 n1 n2 n3 n4 n5 n6 h5 h6 h56 HB HW1 HJ1
      generalize wc = w2 at *
      obtain ⟨c0, c1, c2, c3, c4, c5, c6, c7, c8, c9, ca, cb, cc, cd, ce, cf⟩ := c16row H5.out
      have hf := free_row H5.out 10
      clear c0 c1 c2 c3 c4 c5 c6 c7 c8 c9 cb cc cd ce cf
      go_upto_region 5 with fail
      clear ca hf
      generalize hW2 : w2.setCell ⟨g5, 10, none⟩ (.bool false) = W2
      have H5b : Hid (W2.heap[g5]? = some (.cells #[.string ⟨nm.toArray⟩, .int .i64 kind, .int .i64 axis, .int .i64 ax, .int .i64 ay, .int .i64 az, .int .i64 lo, .int .i64 fhi, (.slice fa fn fc), .int .i64 xk, .bool false, .int .i64 tol, .int .i64 mat, (.slice da dn dc), (.slice xa xn xc), .int .i64 b0] 34 (0, 0))) := Lib.hid (by rw [← hW2]; exact heap_setCell_same w2 g5 10 _ _ (.bool false) H5.out)
      have H6b : Hid (W2.heap[g6]? = some (.cells #[.string ⟨nm.toArray⟩, .int .i64 kind, .int .i64 axis, .int .i64 ax, .int .i64 ay, .int .i64 az, .int .i64 lo, .int .i64 fhi, (.slice fa fn fc), .int .i64 xk, .bool true, .int .i64 tol, .int .i64 mat, (.slice da dn dc), (.slice xa xn xc), .int .i64 b0] 34 (0, 0))) := Lib.hid (by rw [← hW2]; exact (heap_setCell_other w2 ⟨g5, 10, none⟩ g6 _ (Ne.symm N.out.2.2.2.2.1)).trans H6.out)
      have HJ3 : Hid (Tw w W2 w.heap.size gt (.cells #[.string ⟨nm.toArray⟩, .int .i64 kind, .int .i64 axis, .int .i64 ax, .int .i64 ay, .int .i64 az, .int .i64 lo, .int .i64 fhi, (.slice fa fn fc), .int .i64 xk, .bool true, .int .i64 tol, .int .i64 mat, (.slice da dn dc), (.slice xa xn xc), .int .i64 b0] 34 (0, 0)) (.cells (ttC tt) 38 (0, 0))) := Lib.hid (by rw [← hW2]; exact HJ2.out.set (p := ⟨g5, 10, none⟩) _ N.out.1 N.out.2.2.1 N.out.2.2.2.2.2.1)
      clear hW2 H5 H6 HJ2
      obtain ⟨c0, c1, c2, c3, c4, c5, c6, c7, c8, c9, ca, cb, cc, cd, ce, cf⟩ := c16row H6b.out
      have hf := free_row H6b.out 15
      have hw := HW.out
      have hw' := HW'.out
      clear c0 c1 c2 c3 c4 c5 c6 c7 c8 c9 ca cc cd ce
      go_upto_region 6 with fail
      clear cb cf hf hw hw'
      generalize hW3 : W2.setCell ⟨g6, 15, none⟩ (.int .i64 (b0 + s)) = W3
      have H6c : Hid (W3.heap[g6]? = some (.cells #[.string ⟨nm.toArray⟩, .int .i64 kind, .int .i64 axis, .int .i64 ax, .int .i64 ay, .int .i64 az, .int .i64 lo, .int .i64 fhi, (.slice fa fn fc), .int .i64 xk, .bool true, .int .i64 tol, .int .i64 mat, (.slice da dn dc), (.slice xa xn xc), .int .i64 (b0 + s)] 34 (0, 0))) := Lib.hid (by rw [← hW3]; exact heap_setCell_same W2 g6 15 _ _ (.int .i64 (b0 + s)) H6b.out)
      have H5c : Hid (W3.heap[g5]? = some (.cells #[.string ⟨nm.toArray⟩, .int .i64 kind, .int .i64 axis, .int .i64 ax, .int .i64 ay, .int .i64 az, .int .i64 lo, .int .i64 fhi, (.slice fa fn fc), .int .i64 xk, .bool false, .int .i64 tol, .int .i64 mat, (.slice da dn dc), (.slice xa xn xc), .int .i64 b0] 34 (0, 0))) := Lib.hid (by rw [← hW3]; exact (heap_setCell_other W2 ⟨g6, 15, none⟩ g5 _ N.out.2.2.2.2.1).trans H5b.out)
      have HJ4 : Hid (Tw w W3 w.heap.size gt (.cells #[.string ⟨nm.toArray⟩, .int .i64 kind, .int .i64 axis, .int .i64 ax, .int .i64 ay, .int .i64 az, .int .i64 lo, .int .i64 fhi, (.slice fa fn fc), .int .i64 xk, .bool true, .int .i64 tol, .int .i64 mat, (.slice da dn dc), (.slice xa xn xc), .int .i64 b0] 34 (0, 0)) (.cells (ttC tt) 38 (0, 0))) := Lib.hid (by rw [← hW3]; exact HJ3.out.set (p := ⟨g6, 15, none⟩) _ N.out.2.1 N.out.2.2.2.1 N.out.2.2.2.2.2.2)
      clear hW3 H5b H6b HJ3 N HW HW'
      as_aux_lemma =>
      obtain ⟨CS, hCS⟩ : ∃ X : Array Value, #[.string ⟨nm.toArray⟩, .int .i64 kind, .int .i64 axis, .int .i64 ax, .int .i64 ay, .int .i64 az, .int .i64 lo, .int .i64 fhi, (.slice fa fn fc), .int .i64 xk, .bool true, .int .i64 tol, .int .i64 mat, (.slice da dn dc), (.slice xa xn xc), .int .i64 b0] = X := ⟨_, rfl⟩
      obtain ⟨CB, hCB⟩ : ∃ X : Array Value, #[.string ⟨nm.toArray⟩, .int .i64 kind, .int .i64 axis, .int .i64 ax, .int .i64 ay, .int .i64 az, .int .i64 lo, .int .i64 fhi, (.slice fa fn fc), .int .i64 xk, .bool false, .int .i64 tol, .int .i64 mat, (.slice da dn dc), (.slice xa xn xc), .int .i64 b0] = X := ⟨_, rfl⟩
      obtain ⟨CW, hCW⟩ : ∃ X : Array Value, #[.string ⟨nm.toArray⟩, .int .i64 kind, .int .i64 axis, .int .i64 ax, .int .i64 ay, .int .i64 az, .int .i64 lo, .int .i64 fhi, (.slice fa fn fc), .int .i64 xk, .bool true, .int .i64 tol, .int .i64 mat, (.slice da dn dc), (.slice xa xn xc), .int .i64 (b0 + s)] = X := ⟨_, rfl⟩
      obtain ⟨TS, hTS⟩ : ∃ X : Array Value, ttC tt = X := ⟨_, rfl⟩
      have HSA : Hid ((Tryz.prog.info? 34).map (·.size) = some CS.size) := Lib.hid (by subst hCS; kernel_rfl)
      have HSX : Hid ((Tryz.prog.info? 34).map (·.size) = some CB.size) := Lib.hid (by subst hCB; kernel_rfl)
      have HSW : Hid ((Tryz.prog.info? 34).map (·.size) = some CW.size) := Lib.hid (by subst hCW; kernel_rfl)
      have HSB : Hid ((Tryz.prog.info? 38).map (·.size) = some TS.size) := Lib.hid (by subst hTS; kernel_rfl)
      have K1 : Hid (∀ W, Below w.heap.size w W → Calls Tryz.prog 16 #[.agg CS, .agg TS] W (Ret W (.tuple #[.bool A, .int .i64 0]))) := Lib.hid (by subst hCS hTS; exact HC1.out)
      have K2 : Hid (∀ W, Below w.heap.size w W → Calls Tryz.prog 16 #[.agg CB, .agg TS] W (Ret W (.tuple #[.bool B, .int .i64 0]))) := Lib.hid (by subst hCB hTS; exact HC2.out)
      have K3 : Hid (∀ W, Below w.heap.size w W → Calls Tryz.prog 16 #[.agg CW, .agg TS] W (Ret W (.tuple #[.bool D, .int .i64 0]))) := Lib.hid (by subst hCW hTS; exact HC3.out)
      have R1 : Hid (W3.heap[w.heap.size]? = some (.cells CS 34 (0, 0))) := Lib.hid (by subst hCS; exact HJ4.out.a)
      have R2 : Hid (W3.heap[g5]? = some (.cells CB 34 (0, 0))) := Lib.hid (by subst hCB; exact H5c.out)
      have R3 : Hid (W3.heap[g6]? = some (.cells CW 34 (0, 0))) := Lib.hid (by subst hCW; exact H6c.out)
      have R4 : Hid (W3.heap[gt]? = some (.cells TS 38 (0, 0))) := Lib.hid (by subst hTS; exact HJ4.out.b)
      have hw3 := HJ4.out.w
      clear HC1 HC2 HC3 H5c H6c HJ4 hCS hCB hCW hTS
      go_wp2_with (first | (with_reducible refine wpList_load_row rfl 34 _ rfl w.heap.size (by kernel_rfl) _ CS _ _ R1.out Tryz.underlying34 rfl HSA.out ?_) | (with_reducible refine wpList_load_row rfl 38 _ rfl gt (by kernel_rfl) _ TS _ _ R4.out Tryz.underlying38 rfl HSB.out ?_))
      ((with_reducible refine (K1.out _ hw3).mono ?_); rintro e w4 ⟨rfl, hb4⟩)
      have hw4 := hw3.nx hb4
      have R2' := Lib.hid (keepD R2.out hb4)
      have R3' := Lib.hid (keepD R3.out hb4)
      have R4' := Lib.hid (keepD R4.out hb4)
      clear R1 R2 R3 R4 K1 hb4 hw3 HSA
      go_wp2_with (first | (with_reducible refine wpList_load_row rfl 34 _ rfl g5 (by kernel_rfl) _ CB _ _ R2'.out Tryz.underlying34 rfl HSX.out ?_) | (with_reducible refine wpList_load_row rfl 38 _ rfl gt (by kernel_rfl) _ TS _ _ R4'.out Tryz.underlying38 rfl HSB.out ?_))
      ((with_reducible refine (K2.out _ hw4).mono ?_); rintro e w5 ⟨rfl, hb5⟩)
      have hw5 := hw4.nx hb5
      have R3 := Lib.hid (keepD R3'.out hb5)
      have R4 := Lib.hid (keepD R4'.out hb5)
      clear R2' R3' R4' K2 hb5 hw4 HSX
      go_wp2_with (first | (with_reducible refine wpList_load_row rfl 34 _ rfl g6 (by kernel_rfl) _ CW _ _ R3.out Tryz.underlying34 rfl HSW.out ?_) | (with_reducible refine wpList_load_row rfl 38 _ rfl gt (by kernel_rfl) _ TS _ _ R4.out Tryz.underlying38 rfl HSB.out ?_))
      ((with_reducible refine (K3.out _ hw5).mono ?_); rintro e w6 ⟨rfl, hb6⟩)
      have hw6 := hw5.nx hb6
      clear R3 R4 K3 hb6 hw5 HSW HSB
      cases A with
      | true =>
        obtain rfl : B = true := HAB.out rfl
        obtain rfl : D = true := HBD.out rfl
        clear HAB HBD
        go_wp2_with fail
        ((with_reducible refine (HA.out _ hw6).mono ?_); rintro e wz ⟨rfl, hbz⟩)
        have hwz := (hw6).nx hbz
        go_wp2
        go_ret
        exact ⟨rfl, hwz⟩
      | false =>
        cases B with
        | true =>
          obtain rfl : D = true := HBD.out rfl
          clear HAB HBD
          go_wp2_with fail
          ((with_reducible refine (HA.out _ hw6).mono ?_); rintro e wz ⟨rfl, hbz⟩)
          have hwz := (hw6).nx hbz
          go_wp2
          go_ret
          exact ⟨rfl, hwz⟩
        | false =>
          clear HAB HBD
          cases D
          all_goals
            go_wp2_with fail
            ((with_reducible refine (HA.out _ hw6).mono ?_); rintro e wz ⟨rfl, hbz⟩)
            have hwz := (hw6).nx hbz
            go_wp2
            go_ret
            exact ⟨rfl, hwz⟩
theorem nests_law (c : Ca) (fv dv sv : Value) (tt : TT) (ds : List Dt) (ls : List Sp) (w : World) (hg : Good w) (S : CaS w c fv dv sv ds ls) (hl : ∀ l ∈ tt.l, l.length ≤ 140737488355328) :
    Calls Tryz.prog 5 #[caV c fv dv sv, ttV tt] w (Ret w (.bool true)) := nests_z c fv dv sv tt ds ls w hg S hl fun W => zero_c W
end Go.Proofs.Wk
