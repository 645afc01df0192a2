/- POSITION: the deviations of a point, in the program: features of kind 1. -/
import Derived.Test.YtdpjkfkmlaphhaaGreatDoorPE
namespace Go.Proofs.Wk
open Go.RowKit Mt Po

set_option maxRecDepth 100000 in
set_option maxHeartbeats 8000000 in
theorem off1_c (nm : Txt) (axis lo hi xk tol mat b0 : Int) (disc : Bool) (a : Sp) (fv dv sv : Value) (t : TQ) (p : Sp) (w : World) (hg : Good w) (ha : 0 ≤ axis ∧ axis < 3) (hpos : InP a) (ht : ShT t) (hp : InP p) :
    Calls Tryz.prog 52 #[caV ⟨⟨nm, 1, axis, a, lo, hi⟩, ⟨xk, disc, tol, mat⟩, b0⟩ fv dv sv, ttV (tqT t), spV p] w (OffR w ((devs 1 axis a t p).map rtoa)) := by
  obtain ⟨ax, ay, az⟩ := a
  have HAP := Lib.hid (fun W (h : Below w.heap.size w W) => Apply_c t p W (hg.later h) ht hp)
  have HBD := Lib.hid (fun W => bounded_c W)
  have HFN := Lib.hid (fun W => (across_c axis W).mono fun _ _ h => h.b (axesL_pos (by omega) ha))
  have hLS : devs 1 axis ⟨ax, ay, az⟩ t p = (axesL 1 axis).map (dev ⟨ax, ay, az⟩ t p) := by unfold devs; rw [show axesL 1 axis = axesL 1 axis from rfl]
  have HLT := Lib.hid (fun k (hk : k ∈ (axesL 1 axis)) => show k < 3 from axesL_lt (kind := 1) (axis := axis) (by rw [show axesL 1 axis = axesL 1 axis from rfl]; exact hk))
  have HSB := Lib.hid (fun (k : Nat) W (h : Below w.heap.size w W) => subR (sz_mvd ht hp k) (szV_co (hpos.co k)) (m := 8) (by omega) (by omega) (by omega) W (hg.later h))
  have HWH := Lib.hid (fun (k : Nat) W (h : Below w.heap.size w W) => wholeR (co ⟨ax, ay, az⟩ k) W (hg.later h) (by have := hpos.co k; omega))
  have HDV := Lib.hid (fun k => show mvd t p k - (co ⟨ax, ay, az⟩ k : Rat) = dev ⟨ax, ay, az⟩ t p k from rfl)
  rw [hLS]
  have HBK := Lib.hid (show (axesL 1 axis).length ≤ 3 by rw [← show axesL 1 axis = axesL 1 axis from rfl]; exact axesL_len _ _)
  generalize (axesL 1 axis) = LS at *
  have hix : ∀ W, (Instr.index 176 (.agg bdC) (.int .i64 1)).run Tryz.prog W = .ok (.func (.func 150) #[] #[]) W := fun W => by rfl
  generalize Value.agg bdC = BD at *
  clear hLS hg ht hp hpos
  have hA := bx3 w (.cells #[.string ⟨nm.toArray⟩, .int .i64 1, .int .i64 axis, .int .i64 ax, .int .i64 ay, .int .i64 az, .int .i64 lo, .int .i64 hi, fv, .int .i64 xk, .bool disc, .int .i64 tol, .int .i64 mat, dv, sv, .int .i64 b0] 34) (.cells (ttC (tqT t)) 38) (.cells #[.int .i64 p.x, .int .i64 p.y, .int .i64 p.z] 23)
  have hrp := nw3 w #[.string ⟨nm.toArray⟩, .int .i64 1, .int .i64 axis, .int .i64 ax, .int .i64 ay, .int .i64 az, .int .i64 lo, .int .i64 hi, fv, .int .i64 xk, .bool disc, .int .i64 tol, .int .i64 mat, dv, sv, .int .i64 b0] (ttC (tqT t)) #[.int .i64 p.x, .int .i64 p.y, .int .i64 p.z] 34 38 23
  have hrt := keepD (nw2 w #[.string ⟨nm.toArray⟩, .int .i64 1, .int .i64 axis, .int .i64 ax, .int .i64 ay, .int .i64 az, .int .i64 lo, .int .i64 hi, fv, .int .i64 xk, .bool disc, .int .i64 tol, .int .i64 mat, dv, sv, .int .i64 b0] (ttC (tqT t)) 34 38) (below_al _ (.cells #[.int .i64 p.x, .int .i64 p.y, .int .i64 p.z] 23))
  have hrc := keepD (heap_alloc_new w (.cells #[.string ⟨nm.toArray⟩, .int .i64 1, .int .i64 axis, .int .i64 ax, .int .i64 ay, .int .i64 az, .int .i64 lo, .int .i64 hi, fv, .int .i64 xk, .bool disc, .int .i64 tol, .int .i64 mat, dv, sv, .int .i64 b0] 34)) (bx2 _ (.cells (ttC (tqT t)) 38) (.cells #[.int .i64 p.x, .int .i64 p.y, .int .i64 p.z] 23))
  generalize hmv : mvd t p = mv at *
  generalize hdv : dev ⟨ax, ay, az⟩ t p = dvf at *
  clear hmv hdv
  generalize tqT t = tt at *
  go_enter Tryz.func52, Tryz.ntmps52
  go_upto_region 1 with fail
  generalize hW0 : ((w.alloc (.cells #[.string ⟨nm.toArray⟩, .int .i64 1, .int .i64 axis, .int .i64 ax, .int .i64 ay, .int .i64 az, .int .i64 lo, .int .i64 hi, fv, .int .i64 xk, .bool disc, .int .i64 tol, .int .i64 mat, dv, sv, .int .i64 b0] 34)).alloc (.cells (ttC tt) 38)).alloc (.cells #[.int .i64 p.x, .int .i64 p.y, .int .i64 p.z] 23) = W0 at *
  clear hW0
  generalize w.heap.size + 1 + 1 = gp at *
  generalize w.heap.size + 1 = gt at *
  obtain ⟨t0, t1, t2, t3, t4, t5⟩ := c6row hrt
  obtain ⟨p0, p1, p2⟩ := c3row hrp
  go_wp2_with fail
  ((with_reducible refine (HAP.out _ hA).mono ?_); rintro e w1 ⟨rfl, hb1⟩)
  have hrc1 := keepD (keepD hrc hb1) (below_al w1 (.cells #[.string ⟨(rtoa (mv 0)).toArray⟩, .string ⟨(rtoa (mv 1)).toArray⟩, .string ⟨(rtoa (mv 2)).toArray⟩] 36))
  have hrm1 := heap_alloc_new w1 (.cells #[.string ⟨(rtoa (mv 0)).toArray⟩, .string ⟨(rtoa (mv 1)).toArray⟩, .string ⟨(rtoa (mv 2)).toArray⟩] 36)
  have hB1 := (hA.nx hb1).nx (below_al w1 (.cells #[.string ⟨(rtoa (mv 0)).toArray⟩, .string ⟨(rtoa (mv 1)).toArray⟩, .string ⟨(rtoa (mv 2)).toArray⟩] 36))
  clear hrc hrt hrp hA hb1 t0 t1 t2 t3 t4 t5 p0 p1 p2
  go_upto_region 4 with fail
  generalize w1.alloc (.cells #[.string ⟨(rtoa (mv 0)).toArray⟩, .string ⟨(rtoa (mv 1)).toArray⟩, .string ⟨(rtoa (mv 2)).toArray⟩] 36) = W1 at *
  generalize w1.heap.size = gm at *
  obtain ⟨c0, c1, c2, c3, c4, c5, c6, c7, c8, c9, ca, cb, cc, cd, ce, cf⟩ := c16row hrc1
  clear c0 c1 c2 c6 c7 c8 c9 ca cb cc cd ce cf
  have J2 : OfM w (W1.alloc (.cells #[.int .i64 ax, .int .i64 ay, .int .i64 az] 173)) gm W1.heap.size w.heap.size (rtoa (mv 0)) (rtoa (mv 1)) (rtoa (mv 2)) ⟨ax, ay, az⟩ #[.string ⟨nm.toArray⟩, .int .i64 1, .int .i64 axis, .int .i64 ax, .int .i64 ay, .int .i64 az, .int .i64 lo, .int .i64 hi, fv, .int .i64 xk, .bool disc, .int .i64 tol, .int .i64 mat, dv, sv, .int .i64 b0] :=
    ⟨keepD hrm1 (below_al _ _), heap_alloc_new W1 _, keepD hrc1 (below_al _ _), hB1.nx (below_al _ _)⟩
  go_upto_region 6 with fail
  generalize W1.alloc (.cells #[.int .i64 ax, .int .i64 ay, .int .i64 az] 173) = W2 at *
  generalize W1.heap.size = ga at *
  have HJ := Lib.hid J2
  clear c3 c4 c5 hrm1 hB1 J2 hrc1
  obtain ⟨c0, c1, c2, c3, c4, c5, c6, c7, c8, c9, ca, cb, cc, cd, ce, cf⟩ := c16row HJ.out.c
  clear c0 c3 c4 c5 c6 c7 c8 c9 ca cb cc cd ce cf
  go_cut [46, 47, 48] (fun s46 s47 s48 wx => ∃ b off cap, s46 = .slice (some ⟨b, off, none⟩) LS.length cap ∧ s47 = .int .i64 (LS.length : Int) ∧ s48 = .int .i64 0 ∧ Hid (OfX w wx gm ga b off (rtoa (mv 0)) (rtoa (mv 1)) (rtoa (mv 2)) ⟨ax, ay, az⟩ LS))
  case first =>
    go_region_with (first
      | (go_at_call 98; (with_reducible refine (HBD.out _).mono ?_); rintro e w3 ⟨rfl, hb3⟩; (first | have J3 := HJ.out.drew.later hb3 | have J3 := HJ.out.later hb3); obtain ⟨c0, c1, c2, c3, c4, c5, c6, c7, c8, c9, ca, cb, cc, cd, ce, cf⟩ := c16row J3.c; clear c0 c3 c4 c5 c6 c7 c8 c9 ca cb cc cd ce cf)
      | (go_at_call 150; (with_reducible refine (HFN.out _).mono ?_); rintro e w4 ⟨b, off, cap, rfl, hR4, hl4, hb4⟩; (first | have J4 := J3.later hb4 | have J4 := J3.drew.later hb4))
      | fail)
    all_goals (go_wp2_with fail; go_meet)
    all_goals exact ⟨b, off, cap, rfl, rfl, rfl, ⟨J4.m, J4.a, hR4, hl4, J4.w⟩⟩
  case rest =>
    obtain ⟨b, off, cap, rfl, rfl, rfl, HX⟩ := hcut
    clear HJ c1 c2 hix HBD HFN HAP
    obtain ⟨PT, hPT⟩ : ∃ PT : Nat → List Txt, PT = fun i => ((LS.take i).map dvf).map rtoa := ⟨_, rfl⟩
    have HPT := Lib.hid (fun i (hi : i < LS.length) => show PT (i + 1) = PT i ++ [rtoa (dvf LS[i])] by rw [hPT]; simp only; rw [List.take_succ_eq_append_getElem hi, List.map_append, List.map_append]; rfl)
    have HPL := Lib.hid (fun i => show (PT i).length ≤ i by rw [hPT]; simp [List.length_take]; omega)
    have HP0 := Lib.hid (show PT 0 = [] by rw [hPT]; rfl)
    have HPE := Lib.hid (show PT LS.length = (LS.map dvf).map rtoa by rw [hPT]; simp only; rw [List.take_length])
    clear hPT
    have HLT2 := Lib.hid (fun i (hi : i < LS.length) => HLT.out LS[i] (List.getElem_mem hi))
    have HXN := Lib.hid (fun (W : World) (bb oo : Nat) (h : RX W bb oo LS) i (hi : i < LS.length) => h.nat hi)
    go_wp2_with fail
    go_loopw [11, 48] (fun so si wr => ∃ i : Nat, si = .int .i64 (i : Int) ∧ i ≤ LS.length ∧ Hid (OwT 35 wr wc.heap.size so (PT i)) ∧ Hid (Below wc.heap.size wc wr)) (fun _ si _ => LS.length - (intOf si).toNat)
    case atStart => exact ⟨0, rfl, Nat.zero_le _, by rw [HP0.out]; exact OwT.nil _ _ _, Below.refl _ _⟩
    case round =>
      obtain ⟨i, rfl, hi, hO, hBw⟩ := hrel
      have hJ := Lib.hid (HX.out.later hBw.out)
      by_cases hlt : i < LS.length
      · have k0 := HXN.out _ _ _ hJ.out.x i hlt
        have h3 := HLT2.out i hlt
        have HPT1 := Lib.hid (HPT.out i hlt)
        have HPL1 := Lib.hid (HPL.out i)
        generalize LS[i] = k at *
        have hm := m3_cell (f := fun j => rtoa (mv j)) hJ.out.m h3
        have hc := a3_cell (p := ⟨ax, ay, az⟩) hJ.out.a h3
        have HSB1 := Lib.hid (fun W h => HSB.out k W h)
        rw [HDV.out k] at HSB1
        have HWH1 := Lib.hid (fun W h => HWH.out k W h)
        have HM3 := Lib.hid (fun (W : World) (h : OfX w W gm ga b off (rtoa (mv 0)) (rtoa (mv 1)) (rtoa (mv 2)) ⟨ax, ay, az⟩ LS) => m3_cell (f := fun j => rtoa (mv j)) h.m h3)
        have i0 : (0 : Int) ≤ (k : Int) := by omega
        have i1 : (k : Int) < 3 := by omega
        have j1 : (i : Int) < (LS.length : Int) := by omega
        have i9 : i < 3 := by have := HBK.out; omega
        generalize rtoa (dvf k) = td at *
        generalize rtoa ((co ⟨ax, ay, az⟩ k : Int) : Rat) = tc at *
        generalize co ⟨ax, ay, az⟩ k = cp at *
        try simp only at hm HM3
        generalize rtoa (mv k) = tm at *
        go_upto_region 9 with fail
        clear k0
        go_region_with (first
          | (go_at_call 100; (with_reducible refine (HWH1.out _ ?_).mono ?_); (first | exact hJ.out.w | exact hJ.out.w.drew); rintro e w5 ⟨rfl, hb5⟩; (first | have B5 := hBw.out.drew.nx hb5 | have B5 := hBw.out.nx hb5); have J5 := HX.out.later B5; (first | have O5 := hO.out.later hb5 | have O5 := OwT.later (w := wr.drew) hO.out hb5); have hm5 := HM3.out _ J5)
          | (go_at_call 99; (with_reducible refine (HSB1.out _ ?_).mono ?_); (first | exact J5.w | exact J5.w.drew); rintro e w6 ⟨rfl, hb6⟩; have B6 := B5.nx hb6; have O6 := O5.later hb6)
          | fail)
        all_goals
          have HB6 := Lib.hid B6
          have HO6 := Lib.hid O6
          clear hm hc hm5 hb5 hb6 B5 B6 J5 O5 O6 hJ hO hBw
          have hal := below_al w6 (.cells #[txt td] 35)
          have HC5 := Lib.hid (show (w6.alloc (.cells #[txt td] 35)).cell? ⟨w6.heap.size, 0, none⟩ = some (txt td) from c1row (heap_alloc_new w6 _))
          have HB7 := Lib.hid (HB6.out.nx hal)
          have HO7 := Lib.hid (HO6.out.later hal)
          clear hal HO6 HB6
          go_wp2_with (at_builtin; refine wpList_app_txt rfl _ _ 48 35 rfl Tryz.underlying48 (by kernel_rfl) wc.heap.size _ (PT i) rfl HO7.out w6.heap.size td rfl HC5.out (by have := HPL1.out; have := HBK.out; omega) HB7.out.size ?_)
          intro v' w8 hO8 hb8
          rw [← HPT1.out] at hO8
          have HO8 := Lib.hid hO8
          have HB8 := Lib.hid (HB7.out.trans hb8)
          clear hO8 hb8
          go_wp2
          go_roundw
          case rel => exact ⟨i + 1, by go_num, by omega, HO8.out, HB8.out⟩
          case measure => simp [intOf]; omega
      · obtain rfl : i = LS.length := by omega
        have HS := Lib.hid (show SlS wr _ _ from hO.out.sl)
        rw [HPE.out] at HS
        have hw := hJ.out.w
        clear hO hJ hBw
        go_wp2
        go_ret2
        exact ⟨_, rfl, HS.out, hw⟩
end Go.Proofs.Wk
