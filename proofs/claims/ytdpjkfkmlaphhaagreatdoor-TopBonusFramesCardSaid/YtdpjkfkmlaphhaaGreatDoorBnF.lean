/- THE LAW TopBonusFrames. -/
import Derived.Test.YtdpjkfkmlaphhaaGreatDoorPX
namespace Go.Proofs.Wk
open Go.RowKit Mt Po

set_option maxRecDepth 100000 in
set_option maxHeartbeats 8000000 in
theorem bframes_c (t : Tg) (s : Int) (hs : 0 ≤ s ∧ s ≤ 65535) (w : World) (hg : Good w) (hsg : SgW w) : Calls Tryz.prog 4 #[tgV t, .int .u16 s] w (Ret w (.bool true)) := by
  have HCB := Lib.hid (fun W (h : Below w.heap.size w W) => caseBonus_c W (hg.later h) (hsg.later h))
  have HRC := Lib.hid (fun W => rTg_c t W)
  have HTG := Lib.hid (fun (h : tgE t = 0) => TgR.of h)
  have HB := Lib.hid (fun (R : TgR t) n hi W (h : Below w.heap.size w W) => Bonus_ok t R n hi W (hsg.later h))
  have HV := Lib.hid (fun (R : TgR t) W (h : Below w.heap.size w W) => Virtual_ok t R W (hsg.later h))
  have HFB := Lib.hid (fun (R : TgR t) hm hz n hi W => frBonus_ok t R hm hz n hi W)
  have HFV := Lib.hid (fun (R : TgR t) hm hz W => frVirtual_ok t R hm hz W)
  have HCF := Lib.hid (fun W => caseFeature_c t W)
  have hal := below_al w (.cells (tgC t) 56)
  have hr := heap_alloc_new w (.cells (tgC t) 56)
  clear hg hsg
  obtain ⟨E, hE⟩ : ∃ E, tgE t = E := ⟨_, rfl⟩
  rw [hE] at HTG HRC
  obtain ⟨FT, hFT⟩ : ∃ v, ftV (fkT t) (.slice none 0 0) = v := ⟨_, rfl⟩
  rw [hFT] at HCF HFB HFV
  clear hFT
  obtain ⟨x, y, lo, hi, tol, mat, pin⟩ := t
  clear hE
  go_enter Tryz.func4, Tryz.ntmps4
  go_wp2_with fail
  ((with_reducible refine (HRC.out _).mono ?_); rintro e w1 ⟨rfl, hb1⟩)
  have R1 := Lib.hid (keepD hr hb1)
  have B1 := Lib.hid (hal.nx hb1)
  obtain ⟨c0, c1, c2, c3, c4, c5, c6⟩ := c7row R1.out
  clear hb1 hal hr HRC
  by_cases qE : E = 0
  rotate_left
  · have q1 : decide (E = 0) = false := decide_eq_false qE
    have q2 : (E != 0) = true := by simpa using qE
    have q3 : (E == 0) = false := by simpa using qE
    go_wp2_with fail
    ((with_reducible refine (HCB.out _ B1.out).mono ?_); rintro e wz ⟨rfl, hbz⟩)
    have hwz := (B1.out).nx hbz
    go_wp2
    go_ret
    exact ⟨rfl, hwz⟩
  subst qE
  have R := HTG.out rfl
  clear HTG
  by_cases qm : mat = 0
  · subst qm
    clear R
    go_wp2_with fail
    ((with_reducible refine (HCB.out _ B1.out).mono ?_); rintro e wz ⟨rfl, hbz⟩)
    have hwz := (B1.out).nx hbz
    go_wp2
    go_ret
    exact ⟨rfl, hwz⟩
  have r3 := R.mat
  simp only at r3
  have m1 : decide (mat = 0) = false := decide_eq_false qm
  have m2 : (mat == 0) = false := by simpa using qm
  by_cases qz : tol = 0 ∧ mat ≠ 1
  · obtain ⟨rfl, qz⟩ := qz
    have z1 : decide (mat = 1) = false := decide_eq_false qz
    have z2 : (mat != 1) = true := by simpa using qz
    have z3 : (mat == 1) = false := by simpa using qz
    clear R
    go_wp2_with fail
    ((with_reducible refine (HCB.out _ B1.out).mono ?_); rintro e wz ⟨rfl, hbz⟩)
    have hwz := (B1.out).nx hbz
    go_wp2
    go_ret
    exact ⟨rfl, hwz⟩
  have hz : tol = 0 → mat = 1 := fun h => Classical.byContradiction fun q => qz ⟨h, q⟩
  have r1 := R.lo
  have r2 := R.hi
  have r4 := R.le
  simp only at r1 r2 r4
  obtain ⟨d, hd⟩ : ∃ d, hi - lo + 1 = d := ⟨_, rfl⟩
  obtain ⟨m, hm⟩ : ∃ m, s.tmod d = m := ⟨_, rfl⟩
  have hm0 : 0 ≤ m ∧ m < d := by rw [← hm]; exact ⟨Int.tmod_nonneg _ hs.1, Int.tmod_lt_of_pos _ (by omega)⟩
  have hin : insT ⟨x, y, lo, hi, tol, mat, pin⟩ (lo + m) = true := by unfold insT; simp only [decide_eq_true_eq]; omega
  have HB1 := Lib.hid (fun W h => HB.out R (lo + m) hin W h)
  have HV1 := Lib.hid (fun W h => HV.out R W h)
  have HFB1 : Hid (∀ W, Calls Tryz.prog 18 #[FT, .agg #[.int .i64 8, .bool true, .int .i64 tol, .int .i64 mat, .slice none 0 0], .int .i64 (lo + m)] W (Ret W (.tuple #[.int .i64 (extT ⟨x, y, lo, hi, tol, mat, pin⟩ (lo + m)), .int .i64 0]))) := Lib.hid (fun W => HFB.out R qm hz (lo + m) hin W)
  have HFV1 : Hid (∀ W, Calls Tryz.prog 21 #[FT, .agg #[.int .i64 8, .bool true, .int .i64 tol, .int .i64 mat, .slice none 0 0]] W (Ret W (.tuple #[.int .i64 (virT ⟨x, y, lo, hi, tol, mat, pin⟩), .int .i64 0]))) := Lib.hid (fun W => HFV.out R qm hz W)
  generalize extT ⟨x, y, lo, hi, tol, mat, pin⟩ (lo + m) = EX at *
  generalize virT ⟨x, y, lo, hi, tol, mat, pin⟩ = VI at *
  have e1 : IntKind.i64.wrap (hi - lo) = hi - lo := IntWalk.i64_in _ (by omega)
  have e2 : IntKind.i64.wrap (hi - lo + 1) = d := by rw [hd]; exact IntWalk.i64_in _ (by omega)
  have e3 : IntKind.i64.wrap s = s := IntWalk.i64_in _ (by omega)
  have e4 : IntKind.i64.wrap m = m := IntWalk.i64_in _ (by omega)
  have e5 : IntKind.i64.wrap (lo + m) = lo + m := IntWalk.i64_in _ (by omega)
  have e6 : ¬ d = 0 := by omega
  have e7 : (d == 0) = false := by simpa using e6
  clear HB HV HFB HFV R r1 r2 r3 r4 hm0 hin hs hd
  -- a frame that need not be zero
  have hzz : (¬ tol = 0) ∨ (tol = 0 ∧ mat = 1) := by
    by_cases q : tol = 0
    · exact Or.inr ⟨q, hz q⟩
    · exact Or.inl q
  clear hz qz
  have hB0 : Hid (Below w.heap.size w w1) := B1
  have HM : Hid (s.tmod d = m) := Lib.hid hm
  have HF : Hid ((¬ tol = 0) ∨ (tol = 0 ∧ mat = 1)) := Lib.hid hzz
  clear hzz
  rcases HF.out with q | ⟨q, q'⟩
  · have t1 : decide (tol = 0) = false := decide_eq_false q
    have t2 : (tol == 0) = false := by simpa using q
    go_upto_region 3 with fail
    clear t1 t2 q
    go_region
    generalize lo + m = n at *
    have hal : Below w1.heap.size w1 (w1.alloc (.cells #[.int .i64 8, .bool true, .int .i64 tol, .int .i64 mat, .slice none 0 0] 31)).drew := (below_al w1 _).drew
    have hn : (w1.alloc (.cells #[.int .i64 8, .bool true, .int .i64 tol, .int .i64 mat, .slice none 0 0] 31)).drew.heap[w1.heap.size]? = some (.cells #[.int .i64 8, .bool true, .int .i64 tol, .int .i64 mat, .slice none 0 0] 31 (0, 0)) := heap_alloc_new w1 _
    have HRT := Lib.hid (keepD R1.out hal)
    have HW0 := Lib.hid (B1.out.nx hal)
    have HN := Lib.hid hn
    clear hal hn R1 B1 hB0 m1 m2 qm
    go_upto_region 5 with fail
    clear c0 c1 c2 c3 c4 c5 c6
    generalize (w1.alloc (.cells #[.int .i64 8, .bool true, .int .i64 tol, .int .i64 mat, .slice none 0 0] 31)).drew = W0 at *
    generalize w1.heap.size = g2 at *
    have HALL := Lib.hid (fun (W : World) (h : Below W0.heap.size W0 W) => (⟨c7row (keepD HRT.out h), c5row (keepD HN.out h), h⟩ : (W.cell? ⟨w.heap.size, 0, none⟩ = some (.int .i64 x) ∧ W.cell? ⟨w.heap.size, 1, none⟩ = some (.int .i64 y) ∧ W.cell? ⟨w.heap.size, 2, none⟩ = some (.int .i64 lo) ∧ W.cell? ⟨w.heap.size, 3, none⟩ = some (.int .i64 hi) ∧ W.cell? ⟨w.heap.size, 4, none⟩ = some (.int .i64 tol) ∧ W.cell? ⟨w.heap.size, 5, none⟩ = some (.int .i64 mat) ∧ W.cell? ⟨w.heap.size, 6, none⟩ = some (.bool pin)) ∧ (W.cell? ⟨g2, 0, none⟩ = some (.int .i64 8) ∧ W.cell? ⟨g2, 1, none⟩ = some (.bool true) ∧ W.cell? ⟨g2, 2, none⟩ = some (.int .i64 tol) ∧ W.cell? ⟨g2, 3, none⟩ = some (.int .i64 mat) ∧ W.cell? ⟨g2, 4, none⟩ = some (.slice none 0 0)) ∧ Below W0.heap.size W0 W))
    have hB : Below W0.heap.size W0 W0 := Below.refl _ _
    go_region_held3 (fun W => (W.cell? ⟨w.heap.size, 0, none⟩ = some (.int .i64 x) ∧ W.cell? ⟨w.heap.size, 1, none⟩ = some (.int .i64 y) ∧ W.cell? ⟨w.heap.size, 2, none⟩ = some (.int .i64 lo) ∧ W.cell? ⟨w.heap.size, 3, none⟩ = some (.int .i64 hi) ∧ W.cell? ⟨w.heap.size, 4, none⟩ = some (.int .i64 tol) ∧ W.cell? ⟨w.heap.size, 5, none⟩ = some (.int .i64 mat) ∧ W.cell? ⟨w.heap.size, 6, none⟩ = some (.bool pin)) ∧ (W.cell? ⟨g2, 0, none⟩ = some (.int .i64 8) ∧ W.cell? ⟨g2, 1, none⟩ = some (.bool true) ∧ W.cell? ⟨g2, 2, none⟩ = some (.int .i64 tol) ∧ W.cell? ⟨g2, 3, none⟩ = some (.int .i64 mat) ∧ W.cell? ⟨g2, 4, none⟩ = some (.slice none 0 0)) ∧ Below W0.heap.size W0 W)
      (first | with_reducible exact HALL.out _ B2 | with_reducible exact HALL.out _ B1 | with_reducible exact HALL.out _ hB | with_reducible exact HALL.out _ hB.drew)
      (first
        | (go_at_call 19; (with_reducible refine (HCF.out _).mono ?_); rintro e v1 ⟨rfl, hb1⟩; (first | (with_reducible have B1 := hB.drew.nx hb1) | (with_reducible have B1 := hB.nx hb1)))
        | (go_at_call 18; (with_reducible refine (HFB1.out _).mono ?_); rintro e v2 ⟨rfl, hb2⟩; have B2 := B1.nx hb2)
        | fail)
    all_goals
      have C2 := Lib.hid B2
      clear hb1 hb2 B1 B2 hB
      obtain ⟨⟨c0, c1, c2, c3, c4, c5, c6⟩, ⟨d0, d1, d2, d3, d4⟩, -⟩ := HALL.out _ C2.out
      go_wp2_with fail
      ((with_reducible refine (HB1.out _ (HW0.out.nx C2.out)).mono ?_); rintro e v3 ⟨rfl, hb3⟩)
      have C3 := Lib.hid (C2.out.nx hb3)
      clear hb3 c0 c1 c2 c3 c4 c5 c6 d0 d1 d2 d3 d4 C2 HB1 HFB1
      have hB : Below W0.heap.size W0 v3 := C3.out
      go_upto_region 7 with fail
      go_region_held3 (fun W => (W.cell? ⟨w.heap.size, 0, none⟩ = some (.int .i64 x) ∧ W.cell? ⟨w.heap.size, 1, none⟩ = some (.int .i64 y) ∧ W.cell? ⟨w.heap.size, 2, none⟩ = some (.int .i64 lo) ∧ W.cell? ⟨w.heap.size, 3, none⟩ = some (.int .i64 hi) ∧ W.cell? ⟨w.heap.size, 4, none⟩ = some (.int .i64 tol) ∧ W.cell? ⟨w.heap.size, 5, none⟩ = some (.int .i64 mat) ∧ W.cell? ⟨w.heap.size, 6, none⟩ = some (.bool pin)) ∧ (W.cell? ⟨g2, 0, none⟩ = some (.int .i64 8) ∧ W.cell? ⟨g2, 1, none⟩ = some (.bool true) ∧ W.cell? ⟨g2, 2, none⟩ = some (.int .i64 tol) ∧ W.cell? ⟨g2, 3, none⟩ = some (.int .i64 mat) ∧ W.cell? ⟨g2, 4, none⟩ = some (.slice none 0 0)) ∧ Below W0.heap.size W0 W)
        (first | with_reducible exact HALL.out _ B2 | with_reducible exact HALL.out _ B1 | with_reducible exact HALL.out _ hB | with_reducible exact HALL.out _ hB.drew)
        (first
          | (go_at_call 19; (with_reducible refine (HCF.out _).mono ?_); rintro e v4 ⟨rfl, hb1⟩; (first | (with_reducible have B1 := hB.drew.nx hb1) | (with_reducible have B1 := hB.nx hb1)))
          | (go_at_call 21; (with_reducible refine (HFV1.out _).mono ?_); rintro e v5 ⟨rfl, hb2⟩; have B2 := B1.nx hb2)
          | fail)
      all_goals
        have C4 := Lib.hid B2
        clear hb1 hb2 B1 B2 hB
        obtain ⟨⟨c0, c1, c2, c3, c4, c5, c6⟩, -, -⟩ := HALL.out _ C4.out
        go_wp2_with fail
        ((with_reducible refine (HV1.out _ (HW0.out.nx C4.out)).mono ?_); rintro e v6 ⟨rfl, hb3⟩)
        have hw6 := HW0.out.nx (C4.out.nx hb3)
        clear hb3 c0 c1 c2 c3 c4 c5 c6 C3 C4 HV1 HFV1 HALL HCF HW0
        go_wp2_with fail
        ((with_reducible refine (HCB.out _ hw6).mono ?_); rintro e wz ⟨rfl, hbz⟩)
        have hwz := (hw6).nx hbz
        go_wp2
        go_ret
        exact ⟨rfl, hwz⟩
  · have t1 : decide (tol = 0) = true := decide_eq_true q
    have t2 : (tol == 0) = true := by simpa using q
    have t3 : decide (mat = 1) = true := decide_eq_true q'
    have t4 : (mat != 1) = false := by simpa using q'
    have t5 : (mat == 1) = true := by simpa using q'
    clear q q'
    go_upto_region 3 with fail
    clear t1 t2 t3 t4 t5
    go_region
    generalize lo + m = n at *
    have hal : Below w1.heap.size w1 (w1.alloc (.cells #[.int .i64 8, .bool true, .int .i64 tol, .int .i64 mat, .slice none 0 0] 31)).drew := (below_al w1 _).drew
    have hn : (w1.alloc (.cells #[.int .i64 8, .bool true, .int .i64 tol, .int .i64 mat, .slice none 0 0] 31)).drew.heap[w1.heap.size]? = some (.cells #[.int .i64 8, .bool true, .int .i64 tol, .int .i64 mat, .slice none 0 0] 31 (0, 0)) := heap_alloc_new w1 _
    have HRT := Lib.hid (keepD R1.out hal)
    have HW0 := Lib.hid (B1.out.nx hal)
    have HN := Lib.hid hn
    clear hal hn R1 B1 hB0 m1 m2 qm
    go_upto_region 5 with fail
    clear c0 c1 c2 c3 c4 c5 c6
    generalize (w1.alloc (.cells #[.int .i64 8, .bool true, .int .i64 tol, .int .i64 mat, .slice none 0 0] 31)).drew = W0 at *
    generalize w1.heap.size = g2 at *
    have HALL := Lib.hid (fun (W : World) (h : Below W0.heap.size W0 W) => (⟨c7row (keepD HRT.out h), c5row (keepD HN.out h), h⟩ : (W.cell? ⟨w.heap.size, 0, none⟩ = some (.int .i64 x) ∧ W.cell? ⟨w.heap.size, 1, none⟩ = some (.int .i64 y) ∧ W.cell? ⟨w.heap.size, 2, none⟩ = some (.int .i64 lo) ∧ W.cell? ⟨w.heap.size, 3, none⟩ = some (.int .i64 hi) ∧ W.cell? ⟨w.heap.size, 4, none⟩ = some (.int .i64 tol) ∧ W.cell? ⟨w.heap.size, 5, none⟩ = some (.int .i64 mat) ∧ W.cell? ⟨w.heap.size, 6, none⟩ = some (.bool pin)) ∧ (W.cell? ⟨g2, 0, none⟩ = some (.int .i64 8) ∧ W.cell? ⟨g2, 1, none⟩ = some (.bool true) ∧ W.cell? ⟨g2, 2, none⟩ = some (.int .i64 tol) ∧ W.cell? ⟨g2, 3, none⟩ = some (.int .i64 mat) ∧ W.cell? ⟨g2, 4, none⟩ = some (.slice none 0 0)) ∧ Below W0.heap.size W0 W))
    have hB : Below W0.heap.size W0 W0 := Below.refl _ _
    go_region_held3 (fun W => (W.cell? ⟨w.heap.size, 0, none⟩ = some (.int .i64 x) ∧ W.cell? ⟨w.heap.size, 1, none⟩ = some (.int .i64 y) ∧ W.cell? ⟨w.heap.size, 2, none⟩ = some (.int .i64 lo) ∧ W.cell? ⟨w.heap.size, 3, none⟩ = some (.int .i64 hi) ∧ W.cell? ⟨w.heap.size, 4, none⟩ = some (.int .i64 tol) ∧ W.cell? ⟨w.heap.size, 5, none⟩ = some (.int .i64 mat) ∧ W.cell? ⟨w.heap.size, 6, none⟩ = some (.bool pin)) ∧ (W.cell? ⟨g2, 0, none⟩ = some (.int .i64 8) ∧ W.cell? ⟨g2, 1, none⟩ = some (.bool true) ∧ W.cell? ⟨g2, 2, none⟩ = some (.int .i64 tol) ∧ W.cell? ⟨g2, 3, none⟩ = some (.int .i64 mat) ∧ W.cell? ⟨g2, 4, none⟩ = some (.slice none 0 0)) ∧ Below W0.heap.size W0 W)
      (first | with_reducible exact HALL.out _ B2 | with_reducible exact HALL.out _ B1 | with_reducible exact HALL.out _ hB | with_reducible exact HALL.out _ hB.drew)
      (first
        | (go_at_call 19; (with_reducible refine (HCF.out _).mono ?_); rintro e v1 ⟨rfl, hb1⟩; (first | (with_reducible have B1 := hB.drew.nx hb1) | (with_reducible have B1 := hB.nx hb1)))
        | (go_at_call 18; (with_reducible refine (HFB1.out _).mono ?_); rintro e v2 ⟨rfl, hb2⟩; have B2 := B1.nx hb2)
        | fail)
    all_goals
      have C2 := Lib.hid B2
      clear hb1 hb2 B1 B2 hB
      obtain ⟨⟨c0, c1, c2, c3, c4, c5, c6⟩, ⟨d0, d1, d2, d3, d4⟩, -⟩ := HALL.out _ C2.out
      go_wp2_with fail
      ((with_reducible refine (HB1.out _ (HW0.out.nx C2.out)).mono ?_); rintro e v3 ⟨rfl, hb3⟩)
      have C3 := Lib.hid (C2.out.nx hb3)
      clear hb3 c0 c1 c2 c3 c4 c5 c6 d0 d1 d2 d3 d4 C2 HB1 HFB1
      have hB : Below W0.heap.size W0 v3 := C3.out
      go_upto_region 7 with fail
      go_region_held3 (fun W => (W.cell? ⟨w.heap.size, 0, none⟩ = some (.int .i64 x) ∧ W.cell? ⟨w.heap.size, 1, none⟩ = some (.int .i64 y) ∧ W.cell? ⟨w.heap.size, 2, none⟩ = some (.int .i64 lo) ∧ W.cell? ⟨w.heap.size, 3, none⟩ = some (.int .i64 hi) ∧ W.cell? ⟨w.heap.size, 4, none⟩ = some (.int .i64 tol) ∧ W.cell? ⟨w.heap.size, 5, none⟩ = some (.int .i64 mat) ∧ W.cell? ⟨w.heap.size, 6, none⟩ = some (.bool pin)) ∧ (W.cell? ⟨g2, 0, none⟩ = some (.int .i64 8) ∧ W.cell? ⟨g2, 1, none⟩ = some (.bool true) ∧ W.cell? ⟨g2, 2, none⟩ = some (.int .i64 tol) ∧ W.cell? ⟨g2, 3, none⟩ = some (.int .i64 mat) ∧ W.cell? ⟨g2, 4, none⟩ = some (.slice none 0 0)) ∧ Below W0.heap.size W0 W)
        (first | with_reducible exact HALL.out _ B2 | with_reducible exact HALL.out _ B1 | with_reducible exact HALL.out _ hB | with_reducible exact HALL.out _ hB.drew)
        (first
          | (go_at_call 19; (with_reducible refine (HCF.out _).mono ?_); rintro e v4 ⟨rfl, hb1⟩; (first | (with_reducible have B1 := hB.drew.nx hb1) | (with_reducible have B1 := hB.nx hb1)))
          | (go_at_call 21; (with_reducible refine (HFV1.out _).mono ?_); rintro e v5 ⟨rfl, hb2⟩; have B2 := B1.nx hb2)
          | fail)
      all_goals
        have C4 := Lib.hid B2
        clear hb1 hb2 B1 B2 hB
        obtain ⟨⟨c0, c1, c2, c3, c4, c5, c6⟩, -, -⟩ := HALL.out _ C4.out
        go_wp2_with fail
        ((with_reducible refine (HV1.out _ (HW0.out.nx C4.out)).mono ?_); rintro e v6 ⟨rfl, hb3⟩)
        have hw6 := HW0.out.nx (C4.out.nx hb3)
        clear hb3 c0 c1 c2 c3 c4 c5 c6 C3 C4 HV1 HFV1 HALL HCF HW0
        go_wp2_with fail
        ((with_reducible refine (HCB.out _ hw6).mono ?_); rintro e wz ⟨rfl, hbz⟩)
        have hwz := (hw6).nx hbz
        go_wp2
        go_ret
        exact ⟨rfl, hwz⟩
end Go.Proofs.Wk
