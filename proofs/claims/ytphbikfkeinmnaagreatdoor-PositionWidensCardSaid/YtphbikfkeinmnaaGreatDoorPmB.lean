/- POSITION: the statement Widens. -/
import Derived.Test.YtphbikfkeinmnaaGreatDoorPT
import Derived.Test.YtphbikfkeinmnaaGreatDoorPmY
namespace Go.Proofs.Wk
open Go.RowKit Mt Po

theorem fit_ned {q : Rat} {v : Int} (h0 : 0 ≤ v) (h1 : v ≤ 200000) : fitB q v = decide ((ned q : Int) ≤ v) := by
  obtain ⟨k, rfl⟩ : ∃ k : Nat, v = (k : Int) := ⟨v.toNat, by omega⟩
  unfold fitB
  refine decide_eq_decide.2 ?_
  rw [ned_iff (by omega)]
  omega
theorem widen_law (c : Ca) (fv dv sv : Value) (tt : TT) (ds : List Dt) (ls : List Sp) (w : World) (hg : Good w) (S : CaS w c fv dv sv ds ls) (hl : ∀ l ∈ tt.l, l.length ≤ 140737488355328) (hR : RtP c ds ls [tt]) :
    (0 ≤ c.x.tol ∧ c.x.tol ≤ 100000) ∧ (0 ≤ c.b ∧ c.b ≤ 100000) ∧ ∃ n : Nat,
      (200000 < n → (∀ W, Below w.heap.size w W → Calls Tryz.prog 18 #[caV c fv dv sv, ttV tt] W (Ret W (.tuple #[.int .i64 0, .int .i64 11])))) ∧
      (n ≤ 200000 → (∀ W, Below w.heap.size w W → Calls Tryz.prog 18 #[caV c fv dv sv, ttV tt] W (Ret W (.tuple #[.int .i64 (n : Int), .int .i64 0])))) ∧
      (∀ W, Below w.heap.size w W → Calls Tryz.prog 16 #[caV c fv dv sv, ttV tt] W (Ret W (.tuple #[.bool (decide ((n : Int) ≤ c.x.tol + c.b)), .int .i64 0]))) ∧
      (n ≤ 200000 → ∀ m : Int, 0 ≤ m → m ≤ 7 → 0 ≤ (n : Int) + m - 1 - c.x.tol → (n : Int) + m - 1 - c.x.tol ≤ 100000 → (∀ W, Below w.heap.size w W → Calls Tryz.prog 16 #[caV (bonC c ((n : Int) + m - 1 - c.x.tol)) fv dv sv, ttV tt] W (Ret W (.tuple #[.bool (decide (0 < m)), .int .i64 0])))) := by
  obtain ⟨t, rfl, R⟩ := hR.rt (List.mem_singleton.2 rfl) hl
  obtain ⟨-, -, -, h1, h2⟩ := R.ok
  refine ⟨h1, h2, ned (wsQ c t ls), fun h W hW => ?_, fun h W hW => ?_, fun W hW => ?_, fun h m m0 m7 b0 b1 W hW => ?_⟩
  · have := needed_is hg S R W hW
    unfold nedV at this
    rwa [if_neg (by omega)] at this
  · have := needed_is hg S R W hW
    unfold nedV at this
    rwa [if_pos h] at this
  · have := within_is hg S R W hW
    rwa [fit_ned (by omega) (by omega)] at this
  · have := within_is hg (S.bon _) (R.bon ⟨b0, b1⟩) W hW
    rw [wsQ_bon, show (bonC c ((ned (wsQ c t ls) : Int) + m - 1 - c.x.tol)).x.tol + (bonC c ((ned (wsQ c t ls) : Int) + m - 1 - c.x.tol)).b = c.x.tol + ((ned (wsQ c t ls) : Int) + m - 1 - c.x.tol) from rfl, fit_ned (by omega) (by omega)] at this
    rwa [show decide ((ned (wsQ c t ls) : Int) ≤ c.x.tol + ((ned (wsQ c t ls) : Int) + m - 1 - c.x.tol)) = decide (0 < m) from decide_eq_decide.2 (by omega)] at this
def wm : Nat → Int
  | 0 => 0
  | 1 => 1
  | _ => 7
theorem wm_in (i : Nat) : 0 ≤ wm i ∧ wm i ≤ 7 := by unfold wm; split <;> omega
theorem wm_cell {w : World} {g : Nat} {T : TypeId} (h : w.heap[g]? = some (.cells #[.int .i64 0, .int .i64 1, .int .i64 7] T (0, 0))) {i : Nat} (hi : i < 3) : w.cell? ⟨g, i, none⟩ = some (.int .i64 (wm i)) := by
  obtain ⟨k0, k1, k2⟩ := c3row h
  rcases (by omega : i = 0 ∨ i = 1 ∨ i = 2) with rfl | rfl | rfl
  · exact k0
  · exact k1
  · exact k2
set_option maxRecDepth 100000 in
set_option maxHeartbeats 8000000 in
theorem widens_z (c : Ca) (fv dv sv : Value) (tt : TT) (ds : List Dt) (ls : List Sp) (w : World) (hg : Good w) (S : CaS w c fv dv sv ds ls) (hl : ∀ l ∈ tt.l, l.length ≤ 140737488355328) (HZ : ∀ W, Calls Tryz.prog 28 #[] W (Ret W (ttV zTT'))) :
    Calls Tryz.prog 6 #[caV c fv dv sv, ttV tt] w (Ret w (.bool true)) := by
  have HR := Lib.hid (right_one c fv dv sv tt ds ls w S hl)
  have HA := Lib.hid (fun W (h : Below w.heap.size w W) => awake_z W (hg.later h) HZ)
  have HN := Lib.hid (widen_law c fv dv sv tt ds ls w hg S hl)
  have hJ := Tw.new w (caC c fv dv sv).toList (ttC tt).toList 34 38
  generalize RtP c ds ls [tt] = PR at *
  obtain ⟨fa, fn, fc, da, dn, dc, xa, xn, xc, rfl, rfl, rfl⟩ := S.forms
  obtain ⟨⟨nm, kind, axis, ⟨ax, ay, az⟩, lo, fhi⟩, ⟨xk, disc, tol, mat⟩, b0⟩ := c
  simp only at hJ HR HN
  clear S hg hl HZ
  go_enter Tryz.func6, Tryz.ntmps6
  go_upto_region 1 with fail
  generalize hW0 : (w.alloc (.cells #[.string ⟨nm.toArray⟩, .int .i64 kind, .int .i64 axis, .int .i64 ax, .int .i64 ay, .int .i64 az, .int .i64 lo, .int .i64 fhi, (.slice fa fn fc), .int .i64 xk, .bool disc, .int .i64 tol, .int .i64 mat, (.slice da dn dc), (.slice xa xn xc), .int .i64 b0] 34)).alloc (.cells (ttC tt) 38) = W0 at *
  clear hW0
  generalize w.heap.size + 1 = gt at *
  obtain ⟨c0, c1, c2, c3, c4, c5, c6, c7, c8, c9, ca, cb, cc, cd, ce, cf⟩ := c16row hJ.a
  obtain ⟨t0, t1, t2, t3, t4, t5⟩ := c6row hJ.b
  have hal := below_al W0 (.cells (ttC tt) 38)
  have hT := SlX.one W0 tt
  go_wp2_with fail
  ((with_reducible refine (HR.out _ _ (hJ.w.nx hal) hT).mono ?_); rintro e w1 ⟨b, rfl, hr, hb1⟩)
  have hJ1 := hJ.later (hal.nx hb1)
  have hw1 := hJ1.w
  have HRR := Lib.hid hr
  clear c0 c1 c2 c3 c4 c5 c6 c7 c8 c9 ca cb cc cd ce cf t0 t1 t2 t3 t4 t5 hb1 hJ HR hal hT hr
  cases b with
  | false =>
    clear hJ1 HRR HN
    go_wp2_with fail
    ((with_reducible refine (HA.out _ hw1).mono ?_); rintro e wz ⟨rfl, hbz⟩)
    have hwz := (hw1).nx hbz
    go_wp2
    go_ret
    exact ⟨rfl, hwz⟩
  | true =>
    obtain ⟨ht, hb, n, G1, G2, G3, G4⟩ := HN.out (HRR.out rfl)
    obtain ⟨CS, hCS⟩ : ∃ X : Array Value, #[.string ⟨nm.toArray⟩, .int .i64 kind, .int .i64 axis, .int .i64 ax, .int .i64 ay, .int .i64 az, .int .i64 lo, .int .i64 fhi, (.slice fa fn fc), .int .i64 xk, .bool disc, .int .i64 tol, .int .i64 mat, (.slice da dn dc), (.slice xa xn xc), .int .i64 b0] = X := ⟨_, rfl⟩
    obtain ⟨TS, hTS⟩ : ∃ X : Array Value, ttC tt = X := ⟨_, rfl⟩
    have HW3 : Hid (∀ W, Below w.heap.size w W → Calls Tryz.prog 16 #[.agg CS, .agg TS] W (Ret W (.tuple #[.bool (decide ((n : Int) ≤ tol + b0)), .int .i64 0]))) := Lib.hid (by subst hCS hTS; exact G3)
    have HSA : Hid ((Tryz.prog.info? 34).map (·.size) = some CS.size) := Lib.hid (by subst hCS; kernel_rfl)
    have HSB : Hid ((Tryz.prog.info? 38).map (·.size) = some TS.size) := Lib.hid (by subst hTS; kernel_rfl)
    have HRA1 : Hid (w1.heap[w.heap.size]? = some (.cells CS 34 (0, 0))) := Lib.hid (by subst hCS; exact hJ1.a)
    have HRB1 : Hid (w1.heap[gt]? = some (.cells TS 38 (0, 0))) := Lib.hid (by subst hTS; exact hJ1.b)
    clear HRR HN G3
    by_cases hn : 200000 < n
    · have HW1 : Hid (∀ W, Below w.heap.size w W → Calls Tryz.prog 18 #[.agg CS, .agg TS] W (Ret W (.tuple #[.int .i64 0, .int .i64 11]))) := Lib.hid (by subst hCS hTS; exact G1 hn)
      have hq : decide ((n : Int) ≤ tol + b0) = false := decide_eq_false (by omega)
      rw [hq] at HW3
      clear G1 G2 G4 hq hn ht hb hCS hTS hJ1
      go_wp2_with (first | (with_reducible refine wpList_load_row rfl 34 _ rfl w.heap.size (by kernel_rfl) _ CS _ _ HRA1.out Tryz.underlying34 rfl HSA.out ?_) | (with_reducible refine wpList_load_row rfl 38 _ rfl gt (by kernel_rfl) _ TS _ _ HRB1.out Tryz.underlying38 rfl HSB.out ?_))
      ((with_reducible refine (HW1.out _ hw1).mono ?_); rintro e w2 ⟨rfl, hb2⟩)
      have hw2 := hw1.nx hb2
      have HRA2 := Lib.hid (keepD HRA1.out hb2)
      have HRB2 := Lib.hid (keepD HRB1.out hb2)
      clear HRA1 HRB1 HW1 hb2 hw1
      go_wp2_with (first | (with_reducible refine wpList_load_row rfl 34 _ rfl w.heap.size (by kernel_rfl) _ CS _ _ HRA2.out Tryz.underlying34 rfl HSA.out ?_) | (with_reducible refine wpList_load_row rfl 38 _ rfl gt (by kernel_rfl) _ TS _ _ HRB2.out Tryz.underlying38 rfl HSB.out ?_))
      ((with_reducible refine (HW3.out _ hw2).mono ?_); rintro e w3 ⟨rfl, hb3⟩)
      have hw3 := hw2.nx hb3
      clear HRA2 HRB2 HW3 hb3 hw2 HSA HSB
      go_wp2_with fail
      ((with_reducible refine (HA.out _ hw3).mono ?_); rintro e wz ⟨rfl, hbz⟩)
      have hwz := (hw3).nx hbz
      go_wp2
      go_ret
      exact ⟨rfl, hwz⟩
    · have HW1 : Hid (∀ W, Below w.heap.size w W → Calls Tryz.prog 18 #[.agg CS, .agg TS] W (Ret W (.tuple #[.int .i64 (n : Int), .int .i64 0]))) := Lib.hid (by subst hCS hTS; exact G2 (by omega))
      have hn' : n ≤ 200000 := by omega
      have HX : Hid (∀ m bx : Int, 0 ≤ m → m ≤ 7 → (n : Int) + m - 1 - tol = bx → 0 ≤ bx → bx ≤ 100000 → ∀ W, Below w.heap.size w W → Calls Tryz.prog 16 #[.agg #[.string ⟨nm.toArray⟩, .int .i64 kind, .int .i64 axis, .int .i64 ax, .int .i64 ay, .int .i64 az, .int .i64 lo, .int .i64 fhi, (.slice fa fn fc), .int .i64 xk, .bool disc, .int .i64 tol, .int .i64 mat, (.slice da dn dc), (.slice xa xn xc), .int .i64 bx], .agg TS] W (Ret W (.tuple #[.bool (decide (0 < m)), .int .i64 0]))) := Lib.hid (by
        subst hTS
        rintro m bx m0 m7 rfl x0 x1
        exact G4 hn' m m0 m7 x0 x1)
      have HJ1 := Lib.hid hJ1
      have HCS := Lib.hid hCS
      have HT := Lib.hid ht
      have HB0 := Lib.hid hb
      clear G1 G2 G4 hn ht hb hCS hTS hJ1
      go_wp2_with (first | (with_reducible refine wpList_load_row rfl 34 _ rfl w.heap.size (by kernel_rfl) _ CS _ _ HRA1.out Tryz.underlying34 rfl HSA.out ?_) | (with_reducible refine wpList_load_row rfl 38 _ rfl gt (by kernel_rfl) _ TS _ _ HRB1.out Tryz.underlying38 rfl HSB.out ?_))
      ((with_reducible refine (HW1.out _ hw1).mono ?_); rintro e w2 ⟨rfl, hb2⟩)
      have hw2 := hw1.nx hb2
      have HW2 := Lib.hid hw2
      have HRA2 := Lib.hid (keepD HRA1.out hb2)
      have HRB2 := Lib.hid (keepD HRB1.out hb2)
      have HJ2 := Lib.hid (HJ1.out.later hb2)
      clear HRA1 HRB1 HW1 hb2 hw1 HJ1 hw2
      have j0 : ¬ (n : Int) < 0 := by omega
      have j1 : ¬ (200000 : Int) < (n : Int) := by omega
      have hal := below_al w2 (.cells #[.int .i64 0, .int .i64 1, .int .i64 7] 3)
      have hrl := heap_alloc_new w2 (.cells #[.int .i64 0, .int .i64 1, .int .i64 7] 3)
      go_upto_region 10 with fail
      have HJl := Lib.hid (HJ2.out.later hal)
      have HRA := Lib.hid (keepD HRA2.out hal)
      have HRB := Lib.hid (keepD HRB2.out hal)
      have HRL := Lib.hid hrl
      clear j0 j1 HRA2 HRB2 HJ2 HW2 hrl hal
      generalize hWl : w2.alloc (.cells #[.int .i64 0, .int .i64 1, .int .i64 7] 3) = wl at *
      clear hWl
      generalize w2.heap.size = gl at *
      clear w2
      go_wp2_with fail
      go_loopw [56] (fun si wr => ∃ i : Nat, si = .int .i64 (i : Int) ∧ i ≤ 3 ∧ Hid (Below wl.heap.size wl wr)) (fun si _ => 3 - (intOf si).toNat)
      case atStart => exact ⟨0, rfl, Nat.zero_le _, Below.refl _ _⟩
      case round =>
      obtain ⟨i, rfl, hi, hB⟩ := hrel
      by_cases hlt : i < 3
      · have k0 := wm_cell (keepD HRL.out hB.out) hlt
        obtain ⟨m0, m7⟩ := wm_in i
        generalize wm i = m at *
        obtain ⟨ht0, ht1⟩ := HT.out
        have e1 : IntKind.i64.wrap ((n : Int) + m) = (n : Int) + m := IntWalk.i64_in _ (by omega)
        have e2 : IntKind.i64.wrap ((n : Int) + m - 1) = (n : Int) + m - 1 := IntWalk.i64_in _ (by omega)
        have e3 : IntKind.i64.wrap ((n : Int) + m - 1 - tol) = (n : Int) + m - 1 - tol := IntWalk.i64_in _ (by omega)
        obtain ⟨bx, hbx⟩ : ∃ b, (n : Int) + m - 1 - tol = b := ⟨_, rfl⟩
        replace e3 := e3.trans hbx
        have HX1 := Lib.hid (fun h0 h1 => HX.out m bx m0 m7 hbx h0 h1)
        have E1 := Lib.hid e1
        have E2 := Lib.hid e2
        have E3 := Lib.hid e3
        have j0 : (i : Int) < 3 := by omega
        have j1 : (0 : Int) ≤ (i : Int) := by omega
        have HRA1 := Lib.hid (keepD HRA.out hB.out)
        have HO : Hid (CS.all (·.oneCell') = true) := Lib.hid (by rw [← HCS.out]; kernel_rfl)
        have HZ0 : Hid (zcC.size = CS.size) := Lib.hid (by rw [← HCS.out]; rfl)
        clear m0 m7 ht0 ht1 hbx HX e1 e2 e3 HRA HW3
        go_upto_region 13 with (first | (with_reducible refine wpList_load_row rfl 34 _ rfl w.heap.size (by kernel_rfl) _ CS _ _ HRA1.out Tryz.underlying34 rfl HSA.out ?_) | ((with_reducible refine wpList_store_row rfl 34 _ _ rfl wr.heap.size CS (by kernel_rfl) (by kernel_rfl) 34 zcC (heap_alloc_new wr _) HSA.out HZ0.out HO.out ?_); rw [World.setRow_alloc_new]))
        have hal := below_al wr (.cells CS 34)
        have hx := heap_alloc_new wr (.cells CS 34)
        have HB2 := Lib.hid (hB.out.nx hal)
        have HJ3 := Lib.hid (HJl.out.later HB2.out)
        have hgx : w.heap.size ≠ wr.heap.size := Nat.ne_of_lt (Nat.lt_of_lt_of_le HJl.out.lt1 hB.out.size)
        have hgt : gt ≠ wr.heap.size := Nat.ne_of_lt (Nat.lt_of_lt_of_le HJl.out.lt2 hB.out.size)
        have hgw : w.heap.size ≤ wr.heap.size := Nat.le_trans HJl.out.w.size hB.out.size
        have hgl : wl.heap.size ≤ wr.heap.size := hB.out.size
        have HG := Lib.hid (show w.heap.size ≠ wr.heap.size ∧ gt ≠ wr.heap.size ∧ w.heap.size ≤ wr.heap.size ∧ wl.heap.size ≤ wr.heap.size from ⟨hgx, hgt, hgw, hgl⟩)
        clear hal hgx hgt hgw hgl HRA1 HO HZ0 k0 hB
        generalize hW2 : wr.alloc (.cells CS 34) = W2 at *
        clear hW2
        generalize wr.heap.size = gx at *
        have HXR : Hid (W2.heap[gx]? = some (.cells #[.string ⟨nm.toArray⟩, .int .i64 kind, .int .i64 axis, .int .i64 ax, .int .i64 ay, .int .i64 az, .int .i64 lo, .int .i64 fhi, (.slice fa fn fc), .int .i64 xk, .bool disc, .int .i64 tol, .int .i64 mat, (.slice da dn dc), (.slice xa xn xc), .int .i64 b0] 34 (0, 0))) := Lib.hid (by rw [HCS.out]; exact hx)
        clear hx
        have cb := (c16row HJ3.out.a).2.2.2.2.2.2.2.2.2.2.2.1
        have cf := (c16row HXR.out).2.2.2.2.2.2.2.2.2.2.2.2.2.2.2
        have hf := free_row HXR.out 15
        have e1 := E1.out
        have e2 := E2.out
        have e3 := E3.out
        go_upto_region 14 with fail
        clear cb cf hf e1 e2 e3 E1 E2 E3
        generalize hW3 : W2.setCell ⟨gx, 15, none⟩ (.int .i64 bx) = W3
        have HX3 : Hid (W3.heap[gx]? = some (.cells #[.string ⟨nm.toArray⟩, .int .i64 kind, .int .i64 axis, .int .i64 ax, .int .i64 ay, .int .i64 az, .int .i64 lo, .int .i64 fhi, (.slice fa fn fc), .int .i64 xk, .bool disc, .int .i64 tol, .int .i64 mat, (.slice da dn dc), (.slice xa xn xc), .int .i64 bx] 34 (0, 0))) := Lib.hid (by rw [← hW3]; exact heap_setCell_same W2 gx 15 _ _ (.int .i64 bx) HXR.out)
        have HJ4 : Hid (Tw w W3 w.heap.size gt (.cells #[.string ⟨nm.toArray⟩, .int .i64 kind, .int .i64 axis, .int .i64 ax, .int .i64 ay, .int .i64 az, .int .i64 lo, .int .i64 fhi, (.slice fa fn fc), .int .i64 xk, .bool disc, .int .i64 tol, .int .i64 mat, (.slice da dn dc), (.slice xa xn xc), .int .i64 b0] 34 (0, 0)) (.cells (ttC tt) 38 (0, 0))) := Lib.hid (by rw [← hW3]; exact HJ3.out.set (p := ⟨gx, 15, none⟩) _ HG.out.1 HG.out.2.1 HG.out.2.2.1)
        have HRB3 : Hid (W3.heap[gt]? = some (.cells TS 38 (0, 0))) := Lib.hid (by rw [← hW3]; exact (heap_setCell_other W2 ⟨gx, 15, none⟩ gt _ HG.out.2.1).trans (keepD HRB.out HB2.out))
        have HB3 : Hid (Below wl.heap.size wl W3) := Lib.hid (by rw [← hW3]; exact HB2.out.cel (p := ⟨gx, 15, none⟩) HG.out.2.2.2 _)
        clear hW3 HB2 HJ3 HXR HG
        have cf := (c16row HX3.out).2.2.2.2.2.2.2.2.2.2.2.2.2.2.2
        by_cases hlo : bx < 0
        · clear HX1 HX3 HJ4 HRB3
          go_wp2
          go_roundw
          case rel => exact ⟨i + 1, by go_num, by omega, HB3.out⟩
          case measure => simp [intOf]; omega
        by_cases hhi : 100000 < bx
        · have hlo2 : ¬ bx < 0 := hlo
          clear HX1 HX3 HJ4 HRB3
          go_wp2
          go_roundw
          case rel => exact ⟨i + 1, by go_num, by omega, HB3.out⟩
          case measure => simp [intOf]; omega
        have H4 := Lib.hid (HX1.out (Int.not_lt.1 hlo) (Int.not_lt.1 hhi))
        obtain ⟨CXo, hCX⟩ : ∃ X : Array Value, #[.string ⟨nm.toArray⟩, .int .i64 kind, .int .i64 axis, .int .i64 ax, .int .i64 ay, .int .i64 az, .int .i64 lo, .int .i64 fhi, (.slice fa fn fc), .int .i64 xk, .bool disc, .int .i64 tol, .int .i64 mat, (.slice da dn dc), (.slice xa xn xc), .int .i64 bx] = X := ⟨_, rfl⟩
        have HSX : Hid ((Tryz.prog.info? 34).map (·.size) = some CXo.size) := Lib.hid (by subst hCX; kernel_rfl)
        have HX5 : Hid (W3.heap[gx]? = some (.cells CXo 34 (0, 0))) := Lib.hid (by subst hCX; exact HX3.out)
        have hw3 := HJ4.out.w
        by_cases hm : 0 < m
        · have H5 : Hid (∀ W, Below w.heap.size w W → Calls Tryz.prog 16 #[.agg CXo, .agg TS] W (Ret W (.tuple #[.bool true, .int .i64 0]))) := Lib.hid (by subst hCX; have := H4.out; rwa [decide_eq_true hm] at this)
          clear H4 HX1 HX3 HJ4 hCX
          go_wp2_with (first | (with_reducible refine wpList_load_row rfl 34 _ rfl gx (by kernel_rfl) _ CXo _ _ HX5.out Tryz.underlying34 rfl HSX.out ?_) | (with_reducible refine wpList_load_row rfl 38 _ rfl gt (by kernel_rfl) _ TS _ _ HRB3.out Tryz.underlying38 rfl HSB.out ?_))
          ((with_reducible refine (H5.out _ hw3).mono ?_); rintro e w4 ⟨rfl, hb4⟩)
          have HB4 := Lib.hid (HB3.out.nx hb4)
          clear hb4 HB3 HX5 HSX HRB3 H5 hw3 cf
          go_wp2
          go_roundw
          case rel => exact ⟨i + 1, by go_num, by omega, HB4.out⟩
          case measure => simp [intOf]; omega
        · have H5 : Hid (∀ W, Below w.heap.size w W → Calls Tryz.prog 16 #[.agg CXo, .agg TS] W (Ret W (.tuple #[.bool false, .int .i64 0]))) := Lib.hid (by subst hCX; have := H4.out; rwa [decide_eq_false hm] at this)
          clear H4 HX1 HX3 HJ4 hCX
          go_wp2_with (first | (with_reducible refine wpList_load_row rfl 34 _ rfl gx (by kernel_rfl) _ CXo _ _ HX5.out Tryz.underlying34 rfl HSX.out ?_) | (with_reducible refine wpList_load_row rfl 38 _ rfl gt (by kernel_rfl) _ TS _ _ HRB3.out Tryz.underlying38 rfl HSB.out ?_))
          ((with_reducible refine (H5.out _ hw3).mono ?_); rintro e w4 ⟨rfl, hb4⟩)
          have HB4 := Lib.hid (HB3.out.nx hb4)
          clear hb4 HB3 HX5 HSX HRB3 H5 hw3 cf
          go_wp2
          go_roundw
          case rel => exact ⟨i + 1, by go_num, by omega, HB4.out⟩
          case measure => simp [intOf]; omega
      · obtain rfl : i = 3 := by omega
        have HJ3 := Lib.hid (HJl.out.later hB.out)
        have HRA1 := Lib.hid (keepD HRA.out hB.out)
        have HRB1 := Lib.hid (keepD HRB.out hB.out)
        have hw3 := HJ3.out.w
        obtain ⟨ht0, ht1⟩ := HT.out
        obtain ⟨hb0, hb1⟩ := HB0.out
        have hw : IntKind.i64.wrap (tol + b0) = tol + b0 := IntWalk.i64_in _ (by omega)
        obtain ⟨s, hs⟩ : ∃ s, tol + b0 = s := ⟨_, rfl⟩
        replace hw := hw.trans hs
        rw [hs] at HW3
        have HWR := Lib.hid hw
        clear HX HRL HRA HRB HJl hB ht0 ht1 hb0 hb1 hs HCS hw
        by_cases hq : (n : Int) ≤ s
        · rw [decide_eq_true hq] at HW3
          go_wp2_with (first | (with_reducible refine wpList_load_row rfl 34 _ rfl w.heap.size (by kernel_rfl) _ CS _ _ HRA1.out Tryz.underlying34 rfl HSA.out ?_) | (with_reducible refine wpList_load_row rfl 38 _ rfl gt (by kernel_rfl) _ TS _ _ HRB1.out Tryz.underlying38 rfl HSB.out ?_))
          ((with_reducible refine (HW3.out _ hw3).mono ?_); rintro e w4 ⟨rfl, hb4⟩)
          have hw4 := hw3.nx hb4
          obtain ⟨c0, c1, c2, c3, c4, c5, c6, c7, c8, c9, ca, cb, cc, cd, ce, cf⟩ := c16row (HJ3.out.later hb4).a
          have hw := HWR.out
          clear c0 c1 c2 c3 c4 c5 c6 c7 c8 c9 ca cc cd ce HRA1 HRB1 HW3 hw3 hb4 HJ3
          go_wp2_with fail
          ((with_reducible refine (HA.out _ hw4).mono ?_); rintro e wz ⟨rfl, hbz⟩)
          have hwz := (hw4).nx hbz
          go_wp2
          go_ret
          exact ⟨rfl, hwz⟩
        · have HQ := Lib.hid (decide_eq_false hq)
          rw [decide_eq_false hq] at HW3
          go_wp2_with (first | (with_reducible refine wpList_load_row rfl 34 _ rfl w.heap.size (by kernel_rfl) _ CS _ _ HRA1.out Tryz.underlying34 rfl HSA.out ?_) | (with_reducible refine wpList_load_row rfl 38 _ rfl gt (by kernel_rfl) _ TS _ _ HRB1.out Tryz.underlying38 rfl HSB.out ?_))
          ((with_reducible refine (HW3.out _ hw3).mono ?_); rintro e w4 ⟨rfl, hb4⟩)
          have hw4 := hw3.nx hb4
          obtain ⟨c0, c1, c2, c3, c4, c5, c6, c7, c8, c9, ca, cb, cc, cd, ce, cf⟩ := c16row (HJ3.out.later hb4).a
          have hw := HWR.out
          clear c0 c1 c2 c3 c4 c5 c6 c7 c8 c9 ca cc cd ce HRA1 HRB1 HW3 hw3 hb4 HJ3
          go_wp2_with fail
          ((with_reducible refine (HA.out _ hw4).mono ?_); rintro e wz ⟨rfl, hbz⟩)
          have hwz := (hw4).nx hbz
          go_wp2
          go_ret
          exact ⟨by show Ending.returned (.bool (!decide _)) = _; rw [HQ.out]; rfl, hwz⟩
theorem widens_law (c : Ca) (fv dv sv : Value) (tt : TT) (ds : List Dt) (ls : List Sp) (w : World) (hg : Good w) (S : CaS w c fv dv sv ds ls) (hl : ∀ l ∈ tt.l, l.length ≤ 140737488355328) :
    Calls Tryz.prog 6 #[caV c fv dv sv, ttV tt] w (Ret w (.bool true)) := widens_z c fv dv sv tt ds ls w hg S hl fun W => zero_c W
end Go.Proofs.Wk
