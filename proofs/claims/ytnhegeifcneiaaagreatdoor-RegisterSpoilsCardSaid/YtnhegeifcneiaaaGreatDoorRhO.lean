/- REGISTERS OF LOTS: the reference's changed, further kinds. -/
import Derived.Test.YtnhegeifcneiaaaGreatDoorRhN
namespace Go.Proofs.Wk
open Go.RowKit Mt

set_option maxRecDepth 100000 in
set_option maxHeartbeats 4000000 in
theorem changed_2 (a : Rg.Lt) (lot : Txt) (n : Int) (w : World) (ht : Tame a) (hn : 0 ≤ n ∧ n ≤ 1048576) :
    Calls Tryz.prog 126 #[lotV a, entV ⟨2, lot, n⟩] w (Ret w (.tuple #[lotV (Rg.changed a ⟨2, lot, n⟩).1, .int .i64 (Rg.changed a ⟨2, lot, n⟩).2])) := by
  have HL := Lib.hid (fun W => rleft_c a W ht)
  have hC : Rg.changed a ⟨2, lot, n⟩ = _ := rfl
  obtain ⟨nm, sz, gd, bd, cn, sc, st⟩ := a
  obtain ⟨⟨-, b0⟩, ⟨b1, b2⟩, ⟨b3, b4⟩, ⟨b5, b6⟩, ⟨b7, b8⟩⟩ := ht
  simp only at b0 b1 b2 b3 b4 b5 b6 b7 b8
  have hC : Rg.changed ⟨nm, sz, gd, bd, cn, sc, st⟩ ⟨2, lot, n⟩ = (if st ≠ 0 then (⟨nm, sz, gd, bd, cn, sc, st⟩, (14 : Int)) else if Rg.left ⟨nm, sz, gd, bd, cn, sc, st⟩ < n then (⟨nm, sz, gd, bd, cn, sc, st⟩, 16) else (⟨nm, sz, gd, bd + n, cn, sc, st⟩, 0)) := rfl
  generalize Rg.left ⟨nm, sz, gd, bd, cn, sc, st⟩ = L at *
  generalize Rg.changed ⟨nm, sz, gd, bd, cn, sc, st⟩ ⟨2, lot, n⟩ = R at *
  by_cases h0 : st ≠ 0
  · obtain rfl : R = (⟨nm, sz, gd, bd, cn, sc, st⟩, 14) := by rw [hC, if_pos h0]
    have y0 : (st != 0) = true := bne_iff_ne.2 h0
    clear hC HL h0
    go_enter Tryz.func126, Tryz.ntmps126
    go_upto_region 1 with fail
    have J := LEW.new w ⟨nm, sz, gd, bd, cn, sc, st⟩ ⟨2, lot, n⟩
    generalize World.alloc _ _ = W at J ⊢
    obtain ⟨⟨c0, c1, c2, c3, c4, c5, c6⟩, cf⟩ := cell7 J.c
    obtain ⟨e0, e1, e2⟩ := cell3 J.e
    obtain ⟨⟨r0, r1, r2, r3, r4, r5, r6⟩, rf⟩ := cell7 J.r
    have f2 := cf 2; have f3 := cf 3; have f4 := cf 4; have f5 := cf 5; have f6 := cf 6
    have z0 := rf 0; have z1 := rf 1; have z2 := rf 2; have z3 := rf 3; have z4 := rf 4; have z5 := rf 5; have z6 := rf 6
    have HJ := Lib.hid J
    clear cf rf J
    go_wp2
    refine bodyPost_ret (results_cell_row_tmp rfl _ _ (w.heap.size + 2) 98 _ _ _ (by kernel_rfl) (put7 HJ.out.r) Tryz.underlying98 rfl (by kernel_rfl)) rfl ?_
    exact ⟨rfl, put7b HJ.out.w (by omega)⟩
  rw [if_neg h0] at hC
  obtain rfl : st = 0 := Decidable.not_not.1 h0
  by_cases h1 : L < n
  · obtain rfl : R = (⟨nm, sz, gd, bd, cn, sc, 0⟩, 16) := by rw [hC, if_pos h1]
    clear hC
    go_enter Tryz.func126, Tryz.ntmps126
    go_upto_region 1 with fail
    have J := LEW.new w ⟨nm, sz, gd, bd, cn, sc, 0⟩ ⟨2, lot, n⟩
    generalize World.alloc _ _ = W at J ⊢
    obtain ⟨⟨c0, c1, c2, c3, c4, c5, c6⟩, cf⟩ := cell7 J.c
    obtain ⟨e0, e1, e2⟩ := cell3 J.e
    obtain ⟨⟨r0, r1, r2, r3, r4, r5, r6⟩, rf⟩ := cell7 J.r
    have f2 := cf 2; have f3 := cf 3; have f4 := cf 4; have f5 := cf 5; have f6 := cf 6
    have z0 := rf 0; have z1 := rf 1; have z2 := rf 2; have z3 := rf 3; have z4 := rf 4; have z5 := rf 5; have z6 := rf 6
    have HJ := Lib.hid J
    clear cf rf J
    go_wp2_with fail
    go_region_with (first
      | (go_at_call 147; (with_reducible refine (HL.out _).mono ?_); rintro e w1 ⟨rfl, hb1⟩; have hb1' : Below W.heap.size W w1 := ⟨hb1.os, hb1.tape, hb1.output, hb1.size, hb1.block⟩; obtain ⟨e0', e1', e2'⟩ := cell3 (HJ.out.later hb1').e)
      | fail)
    all_goals
      have J1 := HJ.out.later hb1'
      clear c0 c1 c2 c3 c4 c5 c6 e0 e1 e2 r0 r1 r2 r3 r4 r5 r6 f2 f3 f4 f5 f6 z0 z1 z2 z3 z4 z5 z6 e0' e1' e2' hb1 hb1'
      obtain ⟨⟨c0, c1, c2, c3, c4, c5, c6⟩, cf⟩ := cell7 J1.c
      obtain ⟨e0, e1, e2⟩ := cell3 J1.e
      obtain ⟨⟨r0, r1, r2, r3, r4, r5, r6⟩, rf⟩ := cell7 J1.r
      have f2 := cf 2; have f3 := cf 3; have f4 := cf 4; have f5 := cf 5; have f6 := cf 6
      have z0 := rf 0; have z1 := rf 1; have z2 := rf 2; have z3 := rf 3; have z4 := rf 4; have z5 := rf 5; have z6 := rf 6
      have HJ1 := Lib.hid J1
      clear cf rf J1
      go_wp2
      refine bodyPost_ret (results_cell_row_tmp rfl _ _ (w.heap.size + 2) 98 _ _ _ (by kernel_rfl) (put7 HJ1.out.r) Tryz.underlying98 rfl (by kernel_rfl)) rfl ?_
      exact ⟨rfl, put7b HJ1.out.w (by omega)⟩
  rw [if_neg h1] at hC
  have w_bd : IntKind.i64.wrap (bd + n) = bd + n := IntWalk.i64_in _ (by omega)
  obtain ⟨u_bd, q_bd⟩ : ∃ u, bd + n = u := ⟨_, rfl⟩
  rw [q_bd] at hC
  have j_bd : IntKind.i64.wrap (bd + n) = u_bd := by rw [w_bd, q_bd]
  obtain rfl : R = (⟨nm, sz, gd, u_bd, cn, sc, 0⟩, 0) := hC
  clear b0 b1 b2 b3 b4 b5 b6 b7 b8 w_bd q_bd hn
  go_enter Tryz.func126, Tryz.ntmps126
  go_upto_region 1 with fail
  have J := LEW.new w ⟨nm, sz, gd, bd, cn, sc, 0⟩ ⟨2, lot, n⟩
  generalize World.alloc _ _ = W at J ⊢
  obtain ⟨⟨c0, c1, c2, c3, c4, c5, c6⟩, cf⟩ := cell7 J.c
  obtain ⟨e0, e1, e2⟩ := cell3 J.e
  obtain ⟨⟨r0, r1, r2, r3, r4, r5, r6⟩, rf⟩ := cell7 J.r
  have f2 := cf 2; have f3 := cf 3; have f4 := cf 4; have f5 := cf 5; have f6 := cf 6
  have z0 := rf 0; have z1 := rf 1; have z2 := rf 2; have z3 := rf 3; have z4 := rf 4; have z5 := rf 5; have z6 := rf 6
  have HJ := Lib.hid J
  clear cf rf J
  go_wp2_with fail
  go_region_with (first
    | (go_at_call 147; (with_reducible refine (HL.out _).mono ?_); rintro e w1 ⟨rfl, hb1⟩; have hb1' : Below W.heap.size W w1 := ⟨hb1.os, hb1.tape, hb1.output, hb1.size, hb1.block⟩; obtain ⟨e0', e1', e2'⟩ := cell3 (HJ.out.later hb1').e)
    | fail)
  all_goals
    have J1 := HJ.out.later hb1'
    clear c0 c1 c2 c3 c4 c5 c6 e0 e1 e2 r0 r1 r2 r3 r4 r5 r6 f2 f3 f4 f5 f6 z0 z1 z2 z3 z4 z5 z6 e0' e1' e2' hb1 hb1'
    obtain ⟨⟨c0, c1, c2, c3, c4, c5, c6⟩, cf⟩ := cell7 J1.c
    obtain ⟨e0, e1, e2⟩ := cell3 J1.e
    obtain ⟨⟨r0, r1, r2, r3, r4, r5, r6⟩, rf⟩ := cell7 J1.r
    have f2 := cf 2; have f3 := cf 3; have f4 := cf 4; have f5 := cf 5; have f6 := cf 6
    have z0 := rf 0; have z1 := rf 1; have z2 := rf 2; have z3 := rf 3; have z4 := rf 4; have z5 := rf 5; have z6 := rf 6
    have HJ1 := Lib.hid J1
    clear cf rf J1
    go_wp2
    refine bodyPost_ret (results_cell_row_tmp rfl _ _ (w.heap.size + 2) 98 _ _ _ (by kernel_rfl) (put7 ((heap_setCell_other _ _ _ _ (by show _ ≠ w.heap.size; omega)).trans HJ1.out.r)) Tryz.underlying98 rfl (by kernel_rfl)) rfl ?_
    exact ⟨rfl, put7b (Below.cellP HJ1.out.w (Nat.le_refl _) _) (by omega)⟩
set_option maxRecDepth 100000 in
set_option maxHeartbeats 4000000 in
theorem changed_4 (a : Rg.Lt) (lot : Txt) (n : Int) (w : World) (ht : Tame a) (hn : 0 ≤ n ∧ n ≤ 1048576) :
    Calls Tryz.prog 126 #[lotV a, entV ⟨4, lot, n⟩] w (Ret w (.tuple #[lotV (Rg.changed a ⟨4, lot, n⟩).1, .int .i64 (Rg.changed a ⟨4, lot, n⟩).2])) := by
  have HL := Lib.hid (fun W => rleft_c a W ht)
  have hC : Rg.changed a ⟨4, lot, n⟩ = _ := rfl
  obtain ⟨nm, sz, gd, bd, cn, sc, st⟩ := a
  obtain ⟨⟨-, b0⟩, ⟨b1, b2⟩, ⟨b3, b4⟩, ⟨b5, b6⟩, ⟨b7, b8⟩⟩ := ht
  simp only at b0 b1 b2 b3 b4 b5 b6 b7 b8
  have hC : Rg.changed ⟨nm, sz, gd, bd, cn, sc, st⟩ ⟨4, lot, n⟩ = (if st = 2 then (⟨nm, sz, gd, bd, cn, sc, st⟩, (14 : Int)) else if bd < n then (⟨nm, sz, gd, bd, cn, sc, st⟩, 16) else (⟨nm, sz, gd, bd - n, cn, sc + n, st⟩, 0)) := rfl
  generalize Rg.left ⟨nm, sz, gd, bd, cn, sc, st⟩ = L at *
  generalize Rg.changed ⟨nm, sz, gd, bd, cn, sc, st⟩ ⟨4, lot, n⟩ = R at *
  by_cases h0 : st = 2
  · obtain rfl : R = (⟨nm, sz, gd, bd, cn, sc, st⟩, 14) := by rw [hC, if_pos h0]
    have y0 : (st == 2) = true := beq_iff_eq.2 h0
    clear hC HL h0
    go_enter Tryz.func126, Tryz.ntmps126
    go_upto_region 1 with fail
    have J := LEW.new w ⟨nm, sz, gd, bd, cn, sc, st⟩ ⟨4, lot, n⟩
    generalize World.alloc _ _ = W at J ⊢
    obtain ⟨⟨c0, c1, c2, c3, c4, c5, c6⟩, cf⟩ := cell7 J.c
    obtain ⟨e0, e1, e2⟩ := cell3 J.e
    obtain ⟨⟨r0, r1, r2, r3, r4, r5, r6⟩, rf⟩ := cell7 J.r
    have f2 := cf 2; have f3 := cf 3; have f4 := cf 4; have f5 := cf 5; have f6 := cf 6
    have z0 := rf 0; have z1 := rf 1; have z2 := rf 2; have z3 := rf 3; have z4 := rf 4; have z5 := rf 5; have z6 := rf 6
    have HJ := Lib.hid J
    clear cf rf J
    go_wp2
    refine bodyPost_ret (results_cell_row_tmp rfl _ _ (w.heap.size + 2) 98 _ _ _ (by kernel_rfl) (put7 HJ.out.r) Tryz.underlying98 rfl (by kernel_rfl)) rfl ?_
    exact ⟨rfl, put7b HJ.out.w (by omega)⟩
  rw [if_neg h0] at hC
  have y0 : (st == 2) = false := beq_eq_false_iff_ne.2 h0
  by_cases h1 : bd < n
  · obtain rfl : R = (⟨nm, sz, gd, bd, cn, sc, st⟩, 16) := by rw [hC, if_pos h1]
    clear hC
    go_enter Tryz.func126, Tryz.ntmps126
    go_upto_region 1 with fail
    have J := LEW.new w ⟨nm, sz, gd, bd, cn, sc, st⟩ ⟨4, lot, n⟩
    generalize World.alloc _ _ = W at J ⊢
    obtain ⟨⟨c0, c1, c2, c3, c4, c5, c6⟩, cf⟩ := cell7 J.c
    obtain ⟨e0, e1, e2⟩ := cell3 J.e
    obtain ⟨⟨r0, r1, r2, r3, r4, r5, r6⟩, rf⟩ := cell7 J.r
    have f2 := cf 2; have f3 := cf 3; have f4 := cf 4; have f5 := cf 5; have f6 := cf 6
    have z0 := rf 0; have z1 := rf 1; have z2 := rf 2; have z3 := rf 3; have z4 := rf 4; have z5 := rf 5; have z6 := rf 6
    have HJ := Lib.hid J
    clear cf rf J
    go_wp2
    refine bodyPost_ret (results_cell_row_tmp rfl _ _ (w.heap.size + 2) 98 _ _ _ (by kernel_rfl) (put7 HJ.out.r) Tryz.underlying98 rfl (by kernel_rfl)) rfl ?_
    exact ⟨rfl, put7b HJ.out.w (by omega)⟩
  rw [if_neg h1] at hC
  have w_bd : IntKind.i64.wrap (bd - n) = bd - n := IntWalk.i64_in _ (by omega)
  obtain ⟨u_bd, q_bd⟩ : ∃ u, bd - n = u := ⟨_, rfl⟩
  rw [q_bd] at hC
  have j_bd : IntKind.i64.wrap (bd - n) = u_bd := by rw [w_bd, q_bd]
  have w_sc : IntKind.i64.wrap (sc + n) = sc + n := IntWalk.i64_in _ (by omega)
  obtain ⟨u_sc, q_sc⟩ : ∃ u, sc + n = u := ⟨_, rfl⟩
  rw [q_sc] at hC
  have j_sc : IntKind.i64.wrap (sc + n) = u_sc := by rw [w_sc, q_sc]
  obtain rfl : R = (⟨nm, sz, gd, u_bd, cn, u_sc, st⟩, 0) := hC
  clear b0 b1 b2 b3 b4 b5 b6 b7 b8 w_bd q_bd w_sc q_sc hn
  go_enter Tryz.func126, Tryz.ntmps126
  go_upto_region 1 with fail
  have J := LEW.new w ⟨nm, sz, gd, bd, cn, sc, st⟩ ⟨4, lot, n⟩
  generalize World.alloc _ _ = W at J ⊢
  obtain ⟨⟨c0, c1, c2, c3, c4, c5, c6⟩, cf⟩ := cell7 J.c
  obtain ⟨e0, e1, e2⟩ := cell3 J.e
  obtain ⟨⟨r0, r1, r2, r3, r4, r5, r6⟩, rf⟩ := cell7 J.r
  have f2 := cf 2; have f3 := cf 3; have f4 := cf 4; have f5 := cf 5; have f6 := cf 6
  have z0 := rf 0; have z1 := rf 1; have z2 := rf 2; have z3 := rf 3; have z4 := rf 4; have z5 := rf 5; have z6 := rf 6
  have HJ := Lib.hid J
  clear cf rf J
  go_wp2
  refine bodyPost_ret (results_cell_row_tmp rfl _ _ (w.heap.size + 2) 98 _ _ _ (by kernel_rfl) (put7 ((heap_setCell_other _ _ _ _ (by show _ ≠ w.heap.size; omega)).trans ((heap_setCell_other _ _ _ _ (by show _ ≠ w.heap.size; omega)).trans HJ.out.r))) Tryz.underlying98 rfl (by kernel_rfl)) rfl ?_
  exact ⟨rfl, put7b (Below.cellP (Below.cellP HJ.out.w (Nat.le_refl _) _) (Nat.le_refl _) _) (by omega)⟩
set_option maxRecDepth 100000 in
set_option maxHeartbeats 4000000 in
theorem changed_5 (a : Rg.Lt) (lot : Txt) (n : Int) (w : World) (ht : Tame a) (_ : 0 ≤ n ∧ n ≤ 1048576) :
    Calls Tryz.prog 126 #[lotV a, entV ⟨5, lot, n⟩] w (Ret w (.tuple #[lotV (Rg.changed a ⟨5, lot, n⟩).1, .int .i64 (Rg.changed a ⟨5, lot, n⟩).2])) := by
  have HL := Lib.hid (fun W => rleft_c a W ht)
  have hC : Rg.changed a ⟨5, lot, n⟩ = _ := rfl
  obtain ⟨nm, sz, gd, bd, cn, sc, st⟩ := a
  obtain ⟨⟨-, b0⟩, ⟨b1, b2⟩, ⟨b3, b4⟩, ⟨b5, b6⟩, ⟨b7, b8⟩⟩ := ht
  simp only at b0 b1 b2 b3 b4 b5 b6 b7 b8
  have hC : Rg.changed ⟨nm, sz, gd, bd, cn, sc, st⟩ ⟨5, lot, n⟩ = (if st ≠ 0 then (⟨nm, sz, gd, bd, cn, sc, st⟩, (14 : Int)) else if 0 < Rg.left ⟨nm, sz, gd, bd, cn, sc, st⟩ then (⟨nm, sz, gd, bd, cn, sc, st⟩, 16) else (⟨nm, sz, gd, bd, cn, sc, 1⟩, 0)) := rfl
  generalize Rg.left ⟨nm, sz, gd, bd, cn, sc, st⟩ = L at *
  generalize Rg.changed ⟨nm, sz, gd, bd, cn, sc, st⟩ ⟨5, lot, n⟩ = R at *
  by_cases h0 : st ≠ 0
  · obtain rfl : R = (⟨nm, sz, gd, bd, cn, sc, st⟩, 14) := by rw [hC, if_pos h0]
    have y0 : (st != 0) = true := bne_iff_ne.2 h0
    clear hC HL h0
    go_enter Tryz.func126, Tryz.ntmps126
    go_upto_region 1 with fail
    have J := LEW.new w ⟨nm, sz, gd, bd, cn, sc, st⟩ ⟨5, lot, n⟩
    generalize World.alloc _ _ = W at J ⊢
    obtain ⟨⟨c0, c1, c2, c3, c4, c5, c6⟩, cf⟩ := cell7 J.c
    obtain ⟨e0, e1, e2⟩ := cell3 J.e
    obtain ⟨⟨r0, r1, r2, r3, r4, r5, r6⟩, rf⟩ := cell7 J.r
    have f2 := cf 2; have f3 := cf 3; have f4 := cf 4; have f5 := cf 5; have f6 := cf 6
    have z0 := rf 0; have z1 := rf 1; have z2 := rf 2; have z3 := rf 3; have z4 := rf 4; have z5 := rf 5; have z6 := rf 6
    have HJ := Lib.hid J
    clear cf rf J
    go_wp2
    refine bodyPost_ret (results_cell_row_tmp rfl _ _ (w.heap.size + 2) 98 _ _ _ (by kernel_rfl) (put7 HJ.out.r) Tryz.underlying98 rfl (by kernel_rfl)) rfl ?_
    exact ⟨rfl, put7b HJ.out.w (by omega)⟩
  rw [if_neg h0] at hC
  obtain rfl : st = 0 := Decidable.not_not.1 h0
  by_cases h1 : 0 < L
  · obtain rfl : R = (⟨nm, sz, gd, bd, cn, sc, 0⟩, 16) := by rw [hC, if_pos h1]
    clear hC
    go_enter Tryz.func126, Tryz.ntmps126
    go_upto_region 1 with fail
    have J := LEW.new w ⟨nm, sz, gd, bd, cn, sc, 0⟩ ⟨5, lot, n⟩
    generalize World.alloc _ _ = W at J ⊢
    obtain ⟨⟨c0, c1, c2, c3, c4, c5, c6⟩, cf⟩ := cell7 J.c
    obtain ⟨e0, e1, e2⟩ := cell3 J.e
    obtain ⟨⟨r0, r1, r2, r3, r4, r5, r6⟩, rf⟩ := cell7 J.r
    have f2 := cf 2; have f3 := cf 3; have f4 := cf 4; have f5 := cf 5; have f6 := cf 6
    have z0 := rf 0; have z1 := rf 1; have z2 := rf 2; have z3 := rf 3; have z4 := rf 4; have z5 := rf 5; have z6 := rf 6
    have HJ := Lib.hid J
    clear cf rf J
    go_wp2_with fail
    ((with_reducible refine (HL.out _).mono ?_); rintro e w1 ⟨rfl, hb1⟩)
    all_goals
      have J1 := HJ.out.later hb1
      clear c0 c1 c2 c3 c4 c5 c6 e0 e1 e2 r0 r1 r2 r3 r4 r5 r6 f2 f3 f4 f5 f6 z0 z1 z2 z3 z4 z5 z6 hb1
      obtain ⟨⟨c0, c1, c2, c3, c4, c5, c6⟩, cf⟩ := cell7 J1.c
      obtain ⟨e0, e1, e2⟩ := cell3 J1.e
      obtain ⟨⟨r0, r1, r2, r3, r4, r5, r6⟩, rf⟩ := cell7 J1.r
      have f2 := cf 2; have f3 := cf 3; have f4 := cf 4; have f5 := cf 5; have f6 := cf 6
      have z0 := rf 0; have z1 := rf 1; have z2 := rf 2; have z3 := rf 3; have z4 := rf 4; have z5 := rf 5; have z6 := rf 6
      have HJ1 := Lib.hid J1
      clear cf rf J1
      go_wp2
      refine bodyPost_ret (results_cell_row_tmp rfl _ _ (w.heap.size + 2) 98 _ _ _ (by kernel_rfl) (put7 HJ1.out.r) Tryz.underlying98 rfl (by kernel_rfl)) rfl ?_
      exact ⟨rfl, put7b HJ1.out.w (by omega)⟩
  rw [if_neg h1] at hC
  obtain rfl : R = (⟨nm, sz, gd, bd, cn, sc, 1⟩, 0) := hC
  clear b0 b1 b2 b3 b4 b5 b6 b7 b8
  go_enter Tryz.func126, Tryz.ntmps126
  go_upto_region 1 with fail
  have J := LEW.new w ⟨nm, sz, gd, bd, cn, sc, 0⟩ ⟨5, lot, n⟩
  generalize World.alloc _ _ = W at J ⊢
  obtain ⟨⟨c0, c1, c2, c3, c4, c5, c6⟩, cf⟩ := cell7 J.c
  obtain ⟨e0, e1, e2⟩ := cell3 J.e
  obtain ⟨⟨r0, r1, r2, r3, r4, r5, r6⟩, rf⟩ := cell7 J.r
  have f2 := cf 2; have f3 := cf 3; have f4 := cf 4; have f5 := cf 5; have f6 := cf 6
  have z0 := rf 0; have z1 := rf 1; have z2 := rf 2; have z3 := rf 3; have z4 := rf 4; have z5 := rf 5; have z6 := rf 6
  have HJ := Lib.hid J
  clear cf rf J
  go_wp2_with fail
  ((with_reducible refine (HL.out _).mono ?_); rintro e w1 ⟨rfl, hb1⟩)
  all_goals
    have J1 := HJ.out.later hb1
    clear c0 c1 c2 c3 c4 c5 c6 e0 e1 e2 r0 r1 r2 r3 r4 r5 r6 f2 f3 f4 f5 f6 z0 z1 z2 z3 z4 z5 z6 hb1
    obtain ⟨⟨c0, c1, c2, c3, c4, c5, c6⟩, cf⟩ := cell7 J1.c
    obtain ⟨e0, e1, e2⟩ := cell3 J1.e
    obtain ⟨⟨r0, r1, r2, r3, r4, r5, r6⟩, rf⟩ := cell7 J1.r
    have f2 := cf 2; have f3 := cf 3; have f4 := cf 4; have f5 := cf 5; have f6 := cf 6
    have z0 := rf 0; have z1 := rf 1; have z2 := rf 2; have z3 := rf 3; have z4 := rf 4; have z5 := rf 5; have z6 := rf 6
    have HJ1 := Lib.hid J1
    clear cf rf J1
    go_wp2
    refine bodyPost_ret (results_cell_row_tmp rfl _ _ (w.heap.size + 2) 98 _ _ _ (by kernel_rfl) (put7 ((heap_setCell_other _ _ _ _ (by show _ ≠ w.heap.size; omega)).trans HJ1.out.r)) Tryz.underlying98 rfl (by kernel_rfl)) rfl ?_
    exact ⟨rfl, put7b (Below.cellP HJ1.out.w (Nat.le_refl _) _) (by omega)⟩
theorem changed_c (a : Rg.Lt) (x : Rg.En) (w : World) (ht : Tame a) (hk : x.k ≠ 0) (hx : Rg.rightE x = 0) :
    Calls Tryz.prog 126 #[lotV a, entV x] w (Ret w (.tuple #[lotV (Rg.changed a x).1, .int .i64 (Rg.changed a x).2])) := by
  obtain ⟨⟨h0, h6⟩, -, hn5, hn⟩ := (Rg.rightE_iff x).1 hx
  obtain ⟨k, lot, n⟩ := x
  simp only at h0 h6 hn5 hn hk
  have hn' : 0 ≤ n ∧ n ≤ 1048576 := by omega
  have : k = 1 ∨ k = 2 ∨ k = 3 ∨ k = 4 ∨ k = 5 ∨ k = 6 := by omega
  rcases this with rfl | rfl | rfl | rfl | rfl | rfl
  · exact changed_1 a lot n w ht hn'
  · exact changed_2 a lot n w ht hn'
  · exact changed_3 a lot n w ht hn'
  · exact changed_4 a lot n w ht hn'
  · exact changed_5 a lot n w ht hn'
  · exact changed_6 a lot n w ht hn'
end Go.Proofs.Wk
