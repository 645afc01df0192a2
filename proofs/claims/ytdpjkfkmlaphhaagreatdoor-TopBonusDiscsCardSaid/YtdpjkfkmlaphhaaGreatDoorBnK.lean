/- THE LAW TopBonusDiscs. -/
import Derived.Test.YtdpjkfkmlaphhaaGreatDoorPX
import Derived.Test.YtdpjkfkmlaphhaaGreatDoorPY
import Derived.Test.YtdpjkfkmlaphhaaGreatDoorPE
namespace Go.Proofs.Wk
open Go.RowKit Mt Po

theorem extT_in {t : Tg} (R : TgR t) {n : Int} (h : insT t n = true) : 0 ≤ extT t n ∧ extT t n ≤ 100000 := by
  obtain ⟨h0, h1⟩ := insT_in h
  have r1 := R.lo
  have r2 := R.hi
  unfold extT
  split
  · omega
  split <;> omega
set_option maxRecDepth 100000 in
set_option maxHeartbeats 8000000 in
theorem bdiscs_c (t : Tg) (c : Ci) (w : World) (hg : Good w) (hsg : SgW w) : Calls Tryz.prog 6 #[tgV t, ciV c] w (Ret w (.bool true)) := by
  have HCB := Lib.hid (fun W (h : Below w.heap.size w W) => caseBonus_c W (hg.later h) (hsg.later h))
  have HRT := Lib.hid (fun W => rTg_c t W)
  have HRC := Lib.hid (fun W => rCi_c c W)
  have HTG := Lib.hid (fun (h : tgE t = 0) => TgR.of h)
  have HCI := Lib.hid (fun (h : ciE c = 0) => CiR.of h)
  have HK := Lib.hid (fun (R : TgR t) (C : CiR c) W (h : Below w.heap.size w W) => Keeps_ok t R c C W (hsg.later h))
  have HA := Lib.hid (fun (R : TgR t) hi W (h : Below w.heap.size w W) => Allowed_ok t R c.s hi W (hsg.later h))
  have HI := Lib.hid (fun W => rInside_c t c.s W)
  have HBD := Lib.hid (fun (R : TgR t) (h : insT t c.s = true) => extT_in R h)
  have HKE : Hid (keepB t c = (insT t c.s && decide (4 * ((c.x - t.x) * (c.x - t.x) + (c.y - t.y) * (c.y - t.y)) ≤ (t.tol + extT t c.s) * (t.tol + extT t c.s)))) := Lib.hid rfl
  have HGG := Lib.hid hg
  have B0 := Lib.hid (bxx w (.cells (tgC t) 56) (.cells #[.int .i64 c.x, .int .i64 c.y, .int .i64 c.s] 80))
  have RB0 := Lib.hid (nww w (.cells (tgC t) 56) #[.int .i64 c.x, .int .i64 c.y, .int .i64 c.s] 80)
  have RA0 := Lib.hid (keepD (heap_alloc_new w (.cells (tgC t) 56)) (below_al _ (.cells #[.int .i64 c.x, .int .i64 c.y, .int .i64 c.s] 80)))
  clear hg hsg
  generalize tgE t = E at *
  generalize ciE c = F at *
  generalize insT t c.s = I at *
  generalize keepB t c = K at *
  generalize extT t c.s = EX at *
  obtain ⟨x, y, lo, hi, tol, mat, pin⟩ := t
  obtain ⟨cx, cy, cs⟩ := c
  simp only at HKE
  go_enter Tryz.func6, Tryz.ntmps6
  go_wp2_with fail
  ((with_reducible refine (HRT.out _).mono ?_); rintro e w1 ⟨rfl, hb1⟩)
  have RA1 := Lib.hid (keepD RA0.out hb1)
  have RB1 := Lib.hid (keepD RB0.out hb1)
  have B1 := Lib.hid (B0.out.nx hb1)
  clear hb1 RA0 RB0 B0
  obtain ⟨c0, c1, c2, c3, c4, c5, c6⟩ := c7row RA1.out
  obtain ⟨d0, d1, d2⟩ := c3row RB1.out
  clear HRT
  by_cases qE : E = 0
  rotate_left
  · have q1 : decide (E = 0) = false := decide_eq_false qE
    have q2 : (E != 0) = true := by simpa using qE
    have q3 : (E == 0) = false := by simpa using qE
    go_wp2_with fail
    ((with_reducible refine (HCB.out _ B1.out).mono ?_); rintro e wz ⟨rfl, hbz⟩)
    have hwz := (B1.out).nx hbz
    go_wp2
    go_ret
    exact ⟨rfl, hwz⟩
  subst qE
  have R := Lib.hid (HTG.out rfl)
  clear HTG
  go_wp2_with fail
  ((with_reducible refine (HRC.out _).mono ?_); rintro e w2 ⟨rfl, hb2⟩)
  clear c0 c1 c2 c3 c4 c5 c6 d0 d1 d2
  have RA2 := Lib.hid (keepD RA1.out hb2)
  have RB2 := Lib.hid (keepD RB1.out hb2)
  have B2 := Lib.hid (B1.out.nx hb2)
  clear hb2 RA1 RB1 B1
  obtain ⟨c0, c1, c2, c3, c4, c5, c6⟩ := c7row RA2.out
  obtain ⟨d0, d1, d2⟩ := c3row RB2.out
  clear HRC
  by_cases qF : F = 0
  rotate_left
  · have q1 : decide (F = 0) = false := decide_eq_false qF
    have q2 : (F != 0) = true := by simpa using qF
    have q3 : (F == 0) = false := by simpa using qF
    go_wp2_with fail
    ((with_reducible refine (HCB.out _ B2.out).mono ?_); rintro e wz ⟨rfl, hbz⟩)
    have hwz := (B2.out).nx hbz
    go_wp2
    go_ret
    exact ⟨rfl, hwz⟩
  subst qF
  have C := Lib.hid (HCI.out rfl)
  clear HCI
  have HK1 := Lib.hid (fun W h => HK.out R.out C.out W h)
  clear HK
  go_wp2_with fail
  ((with_reducible refine (HK1.out _ B2.out).mono ?_); rintro e w3 ⟨rfl, hb3⟩)
  clear c0 c1 c2 c3 c4 c5 c6 d0 d1 d2
  have RA3 := Lib.hid (keepD RA2.out hb3)
  have RB3 := Lib.hid (keepD RB2.out hb3)
  have B3 := Lib.hid (B2.out.nx hb3)
  clear hb3 RA2 RB2 B2
  obtain ⟨c0, c1, c2, c3, c4, c5, c6⟩ := c7row RA3.out
  obtain ⟨d0, d1, d2⟩ := c3row RB3.out
  clear HK1
  go_wp2_with fail
  ((with_reducible refine (HI.out _).mono ?_); rintro e w4 ⟨rfl, hb4⟩)
  clear c0 c1 c2 c3 c4 c5 c6 d0 d1 d2
  have RA4 := Lib.hid (keepD RA3.out hb4)
  have RB4 := Lib.hid (keepD RB3.out hb4)
  have B4 := Lib.hid (B3.out.nx hb4)
  clear hb4 RA3 RB3 B3
  obtain ⟨c0, c1, c2, c3, c4, c5, c6⟩ := c7row RA4.out
  obtain ⟨d0, d1, d2⟩ := c3row RB4.out
  clear HI
  cases I with
  | false =>
    obtain rfl : K = false := HKE.out
    go_wp2_with fail
    ((with_reducible refine (HCB.out _ B4.out).mono ?_); rintro e wz ⟨rfl, hbz⟩)
    have hwz := (B4.out).nx hbz
    go_wp2
    go_ret
    exact ⟨rfl, hwz⟩
  | true =>
  have hKE : K = decide (4 * ((cx - x) * (cx - x) + (cy - y) * (cy - y)) ≤ (tol + EX) * (tol + EX)) := by
    have h := HKE.out
    rwa [Bool.true_and] at h
  have HA1 := Lib.hid (fun W h => HA.out R.out rfl W h)
  have hbd := HBD.out R.out rfl
  have hr := R.out
  have hc := C.out
  have ht1 := hr.x
  have ht2 := hr.y
  have ht3 := hr.tol
  have hc1 := hc.x
  have hc2 := hc.y
  simp only at ht1 ht2 ht3 hc1 hc2
  clear HKE HA HBD R C hr hc
  obtain ⟨n, hn⟩ : ∃ n, tol + EX = n := ⟨_, rfl⟩
  replace HA1 : Hid (∀ W, Below w.heap.size w W → Calls Tryz.prog 29 #[tgV ⟨x, y, lo, hi, tol, mat, pin⟩, .int .i64 cs] W (Ret W (.tuple #[.int .i64 n, .int .i64 0]))) := Lib.hid (fun W h => by rw [← hn]; exact HA1.out W h)
  rw [hn] at hKE
  have hn0 : 0 ≤ n := by omega
  have hn1 : n ≤ 200000 := by omega
  have HD := Lib.hid (fun W (h : Below w.heap.size w W) => contains_ok x y cx cy n ht1 ht2 hc1 hc2 ⟨hn0, hn1⟩ W (HGG.out.later h))
  rw [← hKE] at HD
  have HO := Lib.hid (fun W => Over_q n 2 W (by omega) (by omega) (by decide) (by decide) (by decide))
  have zh : szV (Rat.divInt n 2) 1 5 := szV_divInt ((lng_le n (k := 6) (by omega)).2 (by omega)) ((lng_le 2 (k := 1) (by omega)).2 (by decide)) (by decide)
  have HT := Lib.hid (fun W => Times_q (Rat.divInt n 2) (Rat.divInt n 2) W (zh.s19 (by omega)) (zh.s19 (by omega)))
  have HX1 := Lib.hid (fun W => rwholeR x W (by omega))
  have HX2 := Lib.hid (fun W => rwholeR y W (by omega))
  have HX3 := Lib.hid (fun W => rwholeR cx W (by omega))
  have HX4 := Lib.hid (fun W => rwholeR cy W (by omega))
  clear HGG hKE hn hbd ht1 ht2 ht3 hc1 hc2 zh
  generalize rtoa (Rat.divInt n 2 * Rat.divInt n 2) = qq at *
  generalize rtoa (Rat.divInt n 2) = qh at *
  generalize rtoa (x : Rat) = qx at *
  generalize rtoa (y : Rat) = qy at *
  generalize rtoa (cx : Rat) = px at *
  generalize rtoa (cy : Rat) = py at *
  go_wp2_with fail
  ((with_reducible refine (HA1.out _ B4.out).mono ?_); rintro e w5 ⟨rfl, hb5⟩)
  clear c0 c1 c2 c3 c4 c5 c6 d0 d1 d2
  have RA5 := Lib.hid (keepD RA4.out hb5)
  have RB5 := Lib.hid (keepD RB4.out hb5)
  have B5 := Lib.hid (B4.out.nx hb5)
  clear hb5 RA4 RB4 B4
  clear HA1
  go_wp2_with fail
  ((with_reducible refine (HO.out _).mono ?_); rintro e w6 ⟨rfl, hb6⟩)
  have RA6 := Lib.hid (keepD RA5.out hb6)
  have RB6 := Lib.hid (keepD RB5.out hb6)
  have B6 := Lib.hid (B5.out.nx hb6)
  clear hb6 RA5 RB5 B5
  clear HO hn0 hn1
  go_upto_region 10 with fail
  go_cut [10] from 11 (fun s10 wx => ∃ gz : Nat, s10 = .pointer (some ⟨gz, 0, none⟩) ∧ Hid (wx.heap[gz]? = some (.cells #[.string ⟨qx.toArray⟩, .string ⟨qy.toArray⟩, .string ⟨qq.toArray⟩] 90 (0, 0))) ∧ Hid (Below w6.heap.size w6 wx))
  case first =>
    have HALL := Lib.hid (fun (W : World) (h : Below w6.heap.size w6 W) => by
      obtain ⟨c0, c1, -⟩ := c7row (keepD RA6.out h)
      exact (⟨c0, c1, h⟩ : W.cell? ⟨w.heap.size, 0, none⟩ = some (.int .i64 x) ∧ W.cell? ⟨w.heap.size, 1, none⟩ = some (.int .i64 y) ∧ Below w6.heap.size w6 W))
    have hB : Below w6.heap.size w6 w6 := Below.refl _ _
    have hD : Below w6.heap.size w6 (w6.alloc (.cells #[.string ⟨#[]⟩, .string ⟨#[]⟩, .string ⟨#[]⟩] 90)).drew := (below_al w6 _).drew
    have hE : (w6.alloc (.cells #[.string ⟨#[]⟩, .string ⟨#[]⟩, .string ⟨#[]⟩] 90)).drew.heap[w6.heap.size]? = some (.cells #[.string ⟨#[]⟩, .string ⟨#[]⟩, .string ⟨#[]⟩] 90 (0, 0)) := heap_alloc_new w6 _
    go_region_held3 (fun W => W.cell? ⟨w.heap.size, 0, none⟩ = some (.int .i64 x) ∧ W.cell? ⟨w.heap.size, 1, none⟩ = some (.int .i64 y) ∧ Below w6.heap.size w6 W)
      (first | with_reducible exact HALL.out _ B3 | with_reducible exact HALL.out _ B2 | with_reducible exact HALL.out _ B1 | with_reducible exact HALL.out _ hB | with_reducible exact HALL.out _ hB.drew | with_reducible exact HALL.out _ hD | with_reducible exact HALL.out _ (B3.nx (below_al v3 _)) | with_reducible exact HALL.out _ (B2.nx (below_al v2 _)) | with_reducible exact HALL.out _ (B1.nx (below_al v1 _)) | with_reducible exact HALL.out _ (((B3.cel (p := ⟨w6.heap.size, 0, none⟩) (Nat.le_refl _) _).cel (p := ⟨w6.heap.size, 1, none⟩) (Nat.le_refl _) _).cel (p := ⟨w6.heap.size, 2, none⟩) (Nat.le_refl _) _) | with_reducible exact HALL.out _ (((B3.cel (p := ⟨v1.heap.size, 0, none⟩) B1.size _).cel (p := ⟨v1.heap.size, 1, none⟩) B1.size _).cel (p := ⟨v1.heap.size, 2, none⟩) B1.size _) | with_reducible exact HALL.out _ (((B3.cel (p := ⟨v2.heap.size, 0, none⟩) B2.size _).cel (p := ⟨v2.heap.size, 1, none⟩) B2.size _).cel (p := ⟨v2.heap.size, 2, none⟩) B2.size _))
      (first
        | (go_at_call 31; (with_reducible refine (HT.out _).mono ?_); rintro e v3 ⟨rfl, hb3⟩; (first | (with_reducible have B3 := B2.nx hb3; try have Z3 := keepD Z2 hb3) | (with_reducible have B3 := (B2.nx (below_al v2 _)).nx hb3; have Z3 := keepD (heap_alloc_new v2 _) hb3)); (try (have Z4 := Z3; have hfz := fun k => free_row Z4 k; obtain ⟨z0, z1, z2⟩ := c3row Z4)))
        | (go_at_call 12; (with_reducible refine (HX1.out _).mono ?_); rintro e v1 ⟨rfl, hb1⟩; (first | (with_reducible have B1 := hB.drew.nx hb1) | (with_reducible have B1 := hD.nx hb1; have Z1 := keepD hE hb1)))
        | (go_at_call 12; (with_reducible refine (HX2.out _).mono ?_); rintro e v2 ⟨rfl, hb2⟩; (first | (with_reducible have B2 := B1.nx hb2; try have Z2 := keepD Z1 hb2) | (with_reducible have B2 := (B1.nx (below_al v1 _)).nx hb2; have Z2 := keepD (heap_alloc_new v1 _) hb2)))
        | fail)
    all_goals
      go_wp2
      go_meet
      first
        | exact ⟨_, rfl, Lib.hid (s3row Z3), Lib.hid (((B3.cel (p := ⟨w6.heap.size, 0, none⟩) (Nat.le_refl _) _).cel (p := ⟨w6.heap.size, 1, none⟩) (Nat.le_refl _) _).cel (p := ⟨w6.heap.size, 2, none⟩) (Nat.le_refl _) _)⟩
        | exact ⟨_, rfl, Lib.hid (s3row Z3), Lib.hid (((B3.cel (p := ⟨v1.heap.size, 0, none⟩) B1.size _).cel (p := ⟨v1.heap.size, 1, none⟩) B1.size _).cel (p := ⟨v1.heap.size, 2, none⟩) B1.size _)⟩
        | exact ⟨_, rfl, Lib.hid (s3row Z3), Lib.hid (((B3.cel (p := ⟨v2.heap.size, 0, none⟩) B2.size _).cel (p := ⟨v2.heap.size, 1, none⟩) B2.size _).cel (p := ⟨v2.heap.size, 2, none⟩) B2.size _)⟩
        | exact ⟨_, rfl, Lib.hid (heap_alloc_new v3 _), Lib.hid (B3.nx (below_al v3 _))⟩
  case rest =>
  obtain ⟨gz, rfl, HZ, HB⟩ := hcut
  generalize wc = W7 at *
  have RB7 := Lib.hid (keepD RB6.out HB.out)
  have HW := Lib.hid (B6.out.nx HB.out)
  clear HX1 HX2 HT RA6 RB6 B6 HB
  generalize w.heap.size + 1 = g1 at *
  have HALL := Lib.hid (fun (W : World) (h : Below W7.heap.size W7 W) => (⟨c3row (keepD HZ.out h), c3row (keepD RB7.out h), h⟩ : (W.cell? ⟨gz, 0, none⟩ = some (.string ⟨qx.toArray⟩) ∧ W.cell? ⟨gz, 1, none⟩ = some (.string ⟨qy.toArray⟩) ∧ W.cell? ⟨gz, 2, none⟩ = some (.string ⟨qq.toArray⟩)) ∧ (W.cell? ⟨g1, 0, none⟩ = some (.int .i64 cx) ∧ W.cell? ⟨g1, 1, none⟩ = some (.int .i64 cy) ∧ W.cell? ⟨g1, 2, none⟩ = some (.int .i64 cs)) ∧ Below W7.heap.size W7 W))
  have hB : Below W7.heap.size W7 W7 := Below.refl _ _
  go_upto_region 11 with fail
  go_region_held3 (fun W => (W.cell? ⟨gz, 0, none⟩ = some (.string ⟨qx.toArray⟩) ∧ W.cell? ⟨gz, 1, none⟩ = some (.string ⟨qy.toArray⟩) ∧ W.cell? ⟨gz, 2, none⟩ = some (.string ⟨qq.toArray⟩)) ∧ (W.cell? ⟨g1, 0, none⟩ = some (.int .i64 cx) ∧ W.cell? ⟨g1, 1, none⟩ = some (.int .i64 cy) ∧ W.cell? ⟨g1, 2, none⟩ = some (.int .i64 cs)) ∧ Below W7.heap.size W7 W)
    (first | with_reducible exact HALL.out _ B3 | with_reducible exact HALL.out _ B2 | with_reducible exact HALL.out _ B1 | with_reducible exact HALL.out _ hB | with_reducible exact HALL.out _ hB.drew)
    (first
      | (go_at_call 32; (with_reducible refine (HD.out _ (HW.out.nx B2)).mono ?_); rintro e v3 ⟨rfl, hb3⟩; have B3 := B2.nx hb3)
      | (go_at_call 12; (with_reducible refine (HX3.out _).mono ?_); rintro e v1 ⟨rfl, hb1⟩; (first | (with_reducible have B1 := hB.drew.nx hb1) | (with_reducible have B1 := hB.nx hb1)))
      | (go_at_call 12; (with_reducible refine (HX4.out _).mono ?_); rintro e v2 ⟨rfl, hb2⟩; have B2 := B1.nx hb2)
      | fail)
  all_goals
    have hw8 := HW.out.nx B3
    clear hb1 hb2 hb3 B1 B2 B3 hB HALL HX3 HX4 HD HZ RB7 HW
    rcases (show K = true ∨ K = false by cases K <;> simp) with rfl | rfl
    · skip
      go_wp2_with fail
      ((with_reducible refine (HCB.out _ hw8).mono ?_); rintro e wz ⟨rfl, hbz⟩)
      have hwz := (hw8).nx hbz
      go_wp2
      go_ret
      exact ⟨rfl, hwz⟩
    · skip
      go_wp2_with fail
      ((with_reducible refine (HCB.out _ hw8).mono ?_); rintro e wz ⟨rfl, hbz⟩)
      have hwz := (hw8).nx hbz
      go_wp2
      go_ret
      exact ⟨rfl, hwz⟩
end Go.Proofs.Wk
