/- THE LAW TopBonusFit. -/
import Derived.Test.YtdpjkfkmlaphhaaGreatDoorPX
import Derived.Test.YtdpjkfkmlaphhaaGreatDoorPU
namespace Go.Proofs.Wk
open Go.RowKit Mt Po

theorem four_al (w : World) (o1 o2 : Obj) (o3 o4 : Array Value) (t3 t4 : TypeId) : ((((w.alloc o1).alloc o2).alloc (.cells o3 t3)).alloc (.cells o4 t4)).heap[w.heap.size + 1 + 1]? = some (.cells o3 t3 (0, 0)) ∧ ((((w.alloc o1).alloc o2).alloc (.cells o3 t3)).alloc (.cells o4 t4)).heap[w.heap.size + 1 + 1 + 1]? = some (.cells o4 t4 (0, 0)) ∧
    Below w.heap.size w ((((w.alloc o1).alloc o2).alloc (.cells o3 t3)).alloc (.cells o4 t4)) := by
  have h1 := heap_alloc_new ((w.alloc o1).alloc o2) (.cells o3 t3)
  have h2 := heap_alloc_new (((w.alloc o1).alloc o2).alloc (.cells o3 t3)) (.cells o4 t4)
  rw [World.size_alloc, World.size_alloc] at h1
  rw [World.size_alloc, World.size_alloc, World.size_alloc] at h2
  exact ⟨keepD h1 (below_al _ _), h2, (bxx w o1 o2).nx (bxx _ _ _)⟩
set_option maxRecDepth 100000 in
set_option maxHeartbeats 8000000 in
theorem bfit_c (s l g l2 g2 : Int) (b b2 : Bool) (a c : Int) (ha : 0 ≤ a ∧ a ≤ 255) (hc : 0 ≤ c ∧ c ≤ 255) (w : World) (hg : Good w) (hsg : SgW w) : Calls Tryz.prog 5 #[.agg #[.int .i64 s, .bool b, .int .i64 l, .int .i64 g, .bool b2, .int .i64 l2, .int .i64 g2], .int .u8 a, .int .u8 c] w (Ret w (.bool true)) := by
  have HCB := Lib.hid (fun W (h : Below w.heap.size w W) => caseBonus_c W (hg.later h) (hsg.later h))
  have HCK := Lib.hid (fun W => refCheckG_c s l g l2 g2 b b2 W)
  have HBO := Lib.hid (fun (hf : FitOK s l g l2 g2) W => rBoth_ok s l g l2 g2 hf W)
  have HCL := Lib.hid (fun (hf : FitOK s l g l2 g2) W => Clearance_ok s l g l2 g2 W hf)
  have HV := Lib.hid (fun (t : Tg) (R : TgR t) W (h : Below w.heap.size w W) => Virtual_ok t R W (hsg.later h))
  have HBD : Hid (FitOK s l g l2 g2 → (-1000 ≤ (devz true s l g).1 ∧ (devz true s l g).1 ≤ 1000) ∧ (-1000 ≤ (devz true s l g).2 ∧ (devz true s l g).2 ≤ 1000) ∧ (-1000 ≤ (devz false s l2 g2).1 ∧ (devz false s l2 g2).1 ≤ 1000) ∧ (-1000 ≤ (devz false s l2 g2).2 ∧ (devz false s l2 g2).2 ≤ 1000) ∧ 1 ≤ s ∧ s ≤ 100000) := Lib.hid (fun hf =>
    ⟨(devz_bd (s := s) true hf.a0 hf.a1 hf.b0 hf.b1).1, (devz_bd (s := s) true hf.a0 hf.a1 hf.b0 hf.b1).2, (devz_bd (s := s) false hf.c0 hf.c1 hf.d0 hf.d1).1, (devz_bd (s := s) false hf.c0 hf.c1 hf.d0 hf.d1).2, hf.s0, hf.s1⟩)
  have hal := bxx w (.cells #[.int .i64 s, .bool b, .int .i64 l, .int .i64 g, .bool b2, .int .i64 l2, .int .i64 g2] 69) (.cells #[.int .i64 s, .bool b, .int .i64 l, .int .i64 g, .bool b2, .int .i64 l2, .int .i64 g2] 72)
  have hR := nww w (.cells #[.int .i64 s, .bool b, .int .i64 l, .int .i64 g, .bool b2, .int .i64 l2, .int .i64 g2] 69) #[.int .i64 s, .bool b, .int .i64 l, .int .i64 g, .bool b2, .int .i64 l2, .int .i64 g2] 72
  have hA := keepD (heap_alloc_new w (.cells #[.int .i64 s, .bool b, .int .i64 l, .int .i64 g, .bool b2, .int .i64 l2, .int .i64 g2] 69)) (below_al _ (.cells #[.int .i64 s, .bool b, .int .i64 l, .int .i64 g, .bool b2, .int .i64 l2, .int .i64 g2] 72))
  clear hg hsg
  obtain ⟨OK, hOK⟩ : ∃ P : Prop, FitOK s l g l2 g2 = P := ⟨_, rfl⟩
  have HOK := Lib.hid hOK
  rw [hOK] at HCK HBO HCL HBD
  clear hOK
  generalize devz true s l g = d1 at *
  generalize devz false s l2 g2 = d2 at *
  obtain ⟨p1, p2⟩ := d1
  obtain ⟨p3, p4⟩ := d2
  simp only at HBO HCL HBD
  go_enter Tryz.func5, Tryz.ntmps5
  go_wp2_with fail
  ((with_reducible refine (HCK.out _).mono ?_); rintro e w1 ⟨E, rfl, hE, hb1⟩)
  have HE := Lib.hid hE
  have RA1 := Lib.hid (keepD hA hb1)
  have RB1 := Lib.hid (keepD hR hb1)
  have B1 := Lib.hid (hal.nx hb1)
  clear hal hR hA hb1 hE HCK
  by_cases qE : E = 0
  rotate_left
  · have q1 : decide (E = 0) = false := decide_eq_false qE
    have q2 : (E != 0) = true := by simpa using qE
    have q3 : (E == 0) = false := by simpa using qE
    go_wp2_with fail
    ((with_reducible refine (HCB.out _ B1.out).mono ?_); rintro e wz ⟨rfl, hbz⟩)
    have hwz := (B1.out).nx hbz
    go_wp2
    go_ret
    exact ⟨rfl, hwz⟩
  subst qE
  obtain ⟨rfl, rfl, hf⟩ := HE.out rfl
  have HBO1 := Lib.hid (fun W => HBO.out hf W)
  have HCL1 := Lib.hid (fun W => HCL.out hf W)
  obtain ⟨⟨i1, i2⟩, ⟨i3, i4⟩, ⟨i5, i6⟩, ⟨i7, i8⟩, i9, i10⟩ := HBD.out hf
  clear HE HBO HCL HBD hf HOK
  obtain ⟨L1, hL1⟩ : ∃ x, s + p1 = x := ⟨_, rfl⟩
  obtain ⟨H1, hH1⟩ : ∃ x, s + p2 = x := ⟨_, rfl⟩
  obtain ⟨L2, hL2⟩ : ∃ x, s + p3 = x := ⟨_, rfl⟩
  obtain ⟨H2, hH2⟩ : ∃ x, s + p4 = x := ⟨_, rfl⟩
  rw [hL1, hH1, hL2, hH2] at HBO1 HCL1
  obtain ⟨D, hD⟩ : ∃ D, L1 - a - (H2 + c) = D := ⟨_, rfl⟩
  have HNUM := Lib.hid (show IntKind.i64.wrap (L1 - a - (H2 + c)) = D ∧ IntKind.i64.wrap (L1 - H2 - a) = L1 - H2 - a ∧ IntKind.i64.wrap (L1 - H2 - a - c) = D from
    ⟨by rw [hD]; exact IntWalk.i64_in _ (by omega), IntWalk.i64_in _ (by omega), by rw [show L1 - H2 - a - c = D by omega]; exact IntWalk.i64_in _ (by omega)⟩)
  have ea : IntKind.i64.wrap a = a := IntWalk.i64_in _ (by omega)
  have ec : IntKind.i64.wrap c = c := IntWalk.i64_in _ (by omega)
  have EA := Lib.hid ea
  have EC := Lib.hid ec
  have HTX : Hid (∀ W, Calls Tryz.prog 16 #[.agg #[.int .i64 0, .int .i64 0, .int .i64 L1, .int .i64 H1, .int .i64 a, .int .i64 1, .bool false]] W (Ret W (.int .i64 (tgE ⟨0, 0, L1, H1, a, 1, false⟩)))) := Lib.hid (fun W => rTg_c ⟨0, 0, L1, H1, a, 1, false⟩ W)
  have HTY : Hid (∀ W, Calls Tryz.prog 16 #[.agg #[.int .i64 0, .int .i64 0, .int .i64 L2, .int .i64 H2, .int .i64 c, .int .i64 1, .bool true]] W (Ret W (.int .i64 (tgE ⟨0, 0, L2, H2, c, 1, true⟩)))) := Lib.hid (fun W => rTg_c ⟨0, 0, L2, H2, c, 1, true⟩ W)
  have HVX : Hid (tgE ⟨0, 0, L1, H1, a, 1, false⟩ = 0 → ∀ W, Below w.heap.size w W → Calls Tryz.prog 22 #[.agg #[.int .i64 0, .int .i64 0, .int .i64 L1, .int .i64 H1, .int .i64 a, .int .i64 1, .bool false]] W (Ret W (.tuple #[.int .i64 (L1 - a), .int .i64 0]))) := Lib.hid (fun h W k => HV.out ⟨0, 0, L1, H1, a, 1, false⟩ (TgR.of h) W k)
  have HVY : Hid (tgE ⟨0, 0, L2, H2, c, 1, true⟩ = 0 → ∀ W, Below w.heap.size w W → Calls Tryz.prog 22 #[.agg #[.int .i64 0, .int .i64 0, .int .i64 L2, .int .i64 H2, .int .i64 c, .int .i64 1, .bool true]] W (Ret W (.tuple #[.int .i64 (H2 + c), .int .i64 0]))) := Lib.hid (fun h W k => HV.out ⟨0, 0, L2, H2, c, 1, true⟩ (TgR.of h) W k)
  generalize tgE ⟨0, 0, L1, H1, a, 1, false⟩ = EX at *
  generalize tgE ⟨0, 0, L2, H2, c, 1, true⟩ = EY at *
  clear HV i1 i2 i3 i4 i5 i6 i7 i8 i9 i10 hL1 hH1 hL2 hH2 hD ha hc
  obtain ⟨c0, c1, c2, c3, c4, c5, c6⟩ := c7row RB1.out
  go_wp2_with fail
  ((with_reducible refine (HBO1.out _).mono ?_); rintro e w2 ⟨rfl, hb2⟩)
  obtain ⟨k1, k2, k3⟩ := four_al w2 (.cells #[.int .i64 L1, .int .i64 H1] 25) (.cells #[.int .i64 L2, .int .i64 H2] 25) #[.int .i64 0, .int .i64 0, .int .i64 L1, .int .i64 H1, .int .i64 a, .int .i64 1, .bool false] #[.int .i64 0, .int .i64 0, .int .i64 L2, .int .i64 H2, .int .i64 c, .int .i64 1, .bool true] 56 56
  have RA2 := Lib.hid (keepD RA1.out (hb2.nx k3))
  have B2 := Lib.hid (B1.out.nx (hb2.nx k3))
  clear c0 c1 c2 c3 c4 c5 c6 RA1 RB1 B1 hb2 HBO1
  go_upto_region 7 with fail
  clear ea ec
  generalize ((((w2.alloc (.cells #[.int .i64 L1, .int .i64 H1] 25)).alloc (.cells #[.int .i64 L2, .int .i64 H2] 25)).alloc (.cells #[.int .i64 0, .int .i64 0, .int .i64 L1, .int .i64 H1, .int .i64 a, .int .i64 1, .bool false] 56)).alloc (.cells #[.int .i64 0, .int .i64 0, .int .i64 L2, .int .i64 H2, .int .i64 c, .int .i64 1, .bool true] 56)) = W3 at *
  generalize w2.heap.size + 1 + 1 + 1 = gy at *
  generalize w2.heap.size + 1 + 1 = gx at *
  have RX2 := Lib.hid k1
  have RY2 := Lib.hid k2
  clear k1 k2 k3
  obtain ⟨x0, x1, x2, x3, x4, x5, x6⟩ := c7row RX2.out
  go_wp2_with fail
  ((with_reducible refine (HTX.out _).mono ?_); rintro e w3 ⟨rfl, hb3⟩)
  have RA3 := Lib.hid (keepD RA2.out hb3)
  have RX3 := Lib.hid (keepD RX2.out hb3)
  have RY3 := Lib.hid (keepD RY2.out hb3)
  have B3 := Lib.hid (B2.out.nx hb3)
  clear x0 x1 x2 x3 x4 x5 x6 hb3 RA2 RX2 RY2 B2 HTX
  by_cases qX : EX = 0
  rotate_left
  · have q1 : decide (EX = 0) = false := decide_eq_false qX
    have q2 : (EX != 0) = true := by simpa using qX
    have q3 : (EX == 0) = false := by simpa using qX
    go_wp2_with fail
    ((with_reducible refine (HCB.out _ B3.out).mono ?_); rintro e wz ⟨rfl, hbz⟩)
    have hwz := (B3.out).nx hbz
    go_wp2
    go_ret
    exact ⟨rfl, hwz⟩
  have HVX1 := Lib.hid (HVX.out qX)
  clear HVX
  subst qX
  obtain ⟨x0, x1, x2, x3, x4, x5, x6⟩ := c7row RY3.out
  go_wp2_with fail
  ((with_reducible refine (HTY.out _).mono ?_); rintro e w4 ⟨rfl, hb4⟩)
  have RA4 := Lib.hid (keepD RA3.out hb4)
  have RX4 := Lib.hid (keepD RX3.out hb4)
  have RY4 := Lib.hid (keepD RY3.out hb4)
  have B4 := Lib.hid (B3.out.nx hb4)
  clear x0 x1 x2 x3 x4 x5 x6 hb4 RA3 RX3 RY3 B3 HTY
  by_cases qY : EY = 0
  rotate_left
  · have q1 : decide (EY = 0) = false := decide_eq_false qY
    have q2 : (EY != 0) = true := by simpa using qY
    have q3 : (EY == 0) = false := by simpa using qY
    go_wp2_with fail
    ((with_reducible refine (HCB.out _ B4.out).mono ?_); rintro e wz ⟨rfl, hbz⟩)
    have hwz := (B4.out).nx hbz
    go_wp2
    go_ret
    exact ⟨rfl, hwz⟩
  have HVY1 := Lib.hid (HVY.out qY)
  clear HVY
  subst qY
  obtain ⟨x0, x1, x2, x3, x4, x5, x6⟩ := c7row RX4.out
  go_wp2_with fail
  ((with_reducible refine (HVX1.out _ B4.out).mono ?_); rintro e w5 ⟨rfl, hb5⟩)
  have RA5 := Lib.hid (keepD RA4.out hb5)
  have RY5 := Lib.hid (keepD RY4.out hb5)
  have B5 := Lib.hid (B4.out.nx hb5)
  clear x0 x1 x2 x3 x4 x5 x6 hb5 RA4 RX4 RY4 B4 HVX1
  obtain ⟨x0, x1, x2, x3, x4, x5, x6⟩ := c7row RY5.out
  go_wp2_with fail
  ((with_reducible refine (HVY1.out _ B5.out).mono ?_); rintro e w6 ⟨rfl, hb6⟩)
  have RA6 := Lib.hid (keepD RA5.out hb6)
  have B6 := Lib.hid (B5.out.nx hb6)
  clear x0 x1 x2 x3 x4 x5 x6 hb6 RA5 RY5 B5 HVY1
  obtain ⟨c0, c1, c2, c3, c4, c5, c6⟩ := c7row RA6.out
  go_wp2_with fail
  ((with_reducible refine (HCL1.out _).mono ?_); rintro e w7 ⟨rfl, hb7⟩)
  have hw := (B6.out.nx hb7).nx (below_al w7 (.cells #[.int .i64 (L1 - H2), .int .i64 (H1 - L2)] 25))
  have hn := heap_alloc_new w7 (.cells #[.int .i64 (L1 - H2), .int .i64 (H1 - L2)] 25)
  clear c0 c1 c2 c3 c4 c5 c6 hb7 RA6 B6 HCL1
  go_upto_region 12 with fail
  generalize w7.alloc (.cells #[.int .i64 (L1 - H2), .int .i64 (H1 - L2)] 25) = W8 at *
  generalize w7.heap.size = g8 at *
  obtain ⟨k0, k1⟩ := c2row hn
  obtain ⟨e1, e2, e3⟩ := HNUM.out
  have ea := EA.out
  have ec := EC.out
  clear hn HNUM EA EC
  go_wp2_with fail
  ((with_reducible refine (HCB.out _ hw).mono ?_); rintro e wz ⟨rfl, hbz⟩)
  have hwz := (hw).nx hbz
  go_wp2
  go_ret
  exact ⟨rfl, hwz⟩
end Go.Proofs.Wk
