/- REGISTERS OF LOTS: the reference's changed. -/
import Derived.Test.YtnhegeifcneiaaaGreatDoorRhC
import Derived.Test.YtnhegeifcneiaaaGreatDoorKC
namespace Go.Proofs.Wk
open Go.RowKit Mt

theorem results_cell_row_tmp {P : Program} {fn : Func} {p u : Tmp} {ty : TypeId} (h : fn.results = #[.cell p ty, .tmp u]) (tmps : Array Value) (w : World) (g : Nat) (t : TypeId) (cs : Array Value) (fr : Nat × Nat) (d : TypeDesc)
    (hp : tmps.getD p undef = .pointer (some ⟨g, 0, none⟩)) (hg : w.heap[g]? = some (.cells cs t fr))
    (hu : P.underlying ty = some d) (hd : (match d with | .struct _ | .array _ _ => true | _ => false) = true) (hi : (P.info? ty).map (·.size) = some cs.size) :
    (results fn tmps).run P w = .ok (.tuple #[.agg cs, tmps.getD u undef]) w := by
  rw [results_cell_tmp h, hp]
  simp [asAddr, Result.andThen, run_loadVar_row w g t ty cs fr d hg hu hd hi]
/-- A boxed lot, a boxed entry, the result's block, and what was there before. -/
structure LEW (w0 : World) (x : Rg.Lt) (en : Rg.En) (w : World) : Prop where
  c : w.heap[w0.heap.size]? = some (.cells #[.string ⟨x.nm.toArray⟩, .int .i64 x.sz, .int .i64 x.gd, .int .i64 x.bd, .int .i64 x.cn, .int .i64 x.sc, .int .i64 x.st] 98 (0, 0))
  e : w.heap[w0.heap.size + 1]? = some (.cells #[.int .i64 en.k, .string ⟨en.lot.toArray⟩, .int .i64 en.n] 30 (0, 0))
  r : w.heap[w0.heap.size + 2]? = some (.cells #[.string ⟨#[]⟩, .int .i64 0, .int .i64 0, .int .i64 0, .int .i64 0, .int .i64 0, .int .i64 0] 98 (0, 0))
  w : Below w0.heap.size w0 w
theorem LEW.later {w0 w w' : World} {x : Rg.Lt} {en : Rg.En} (j : LEW w0 x en w) (hb : Below w.heap.size w w') : LEW w0 x en w' :=
  ⟨by rw [hb.block _ (Array.getElem?_eq_some_iff.1 j.c).1]; exact j.c, by rw [hb.block _ (Array.getElem?_eq_some_iff.1 j.e).1]; exact j.e, by rw [hb.block _ (Array.getElem?_eq_some_iff.1 j.r).1]; exact j.r, j.w.trans (hb.mono j.w.size)⟩
theorem LEW.new (w0 : World) (x : Rg.Lt) (en : Rg.En) : LEW w0 x en (((w0.alloc (.cells #[.string ⟨x.nm.toArray⟩, .int .i64 x.sz, .int .i64 x.gd, .int .i64 x.bd, .int .i64 x.cn, .int .i64 x.sc, .int .i64 x.st] 98)).alloc
    (.cells #[.int .i64 en.k, .string ⟨en.lot.toArray⟩, .int .i64 en.n] 30)).alloc (.cells #[.string ⟨#[]⟩, .int .i64 0, .int .i64 0, .int .i64 0, .int .i64 0, .int .i64 0, .int .i64 0] 98)) := by
  generalize hL : (#[.string ⟨x.nm.toArray⟩, .int .i64 x.sz, .int .i64 x.gd, .int .i64 x.bd, .int .i64 x.cn, .int .i64 x.sc, .int .i64 x.st] : Array Value) = L
  generalize hE : (#[.int .i64 en.k, .string ⟨en.lot.toArray⟩, .int .i64 en.n] : Array Value) = E
  generalize hZ : (#[.string ⟨#[]⟩, .int .i64 0, .int .i64 0, .int .i64 0, .int .i64 0, .int .i64 0, .int .i64 0] : Array Value) = Z
  have s1 : (w0.alloc (.cells L 98)).heap.size = w0.heap.size + 1 := by simp
  have s2 : ((w0.alloc (.cells L 98)).alloc (.cells E 30)).heap.size = w0.heap.size + 2 := by simp
  have h1 := heap_alloc_new w0 (.cells L 98)
  have h2 := heap_alloc_new (w0.alloc (.cells L 98)) (.cells E 30)
  have h3 := heap_alloc_new ((w0.alloc (.cells L 98)).alloc (.cells E 30)) (.cells Z 98)
  rw [s1] at h2
  rw [s2] at h3
  refine ⟨?_, ?_, by rw [h3, hZ], ((((Below.refl _ _).alloc (Nat.le_refl _) _).alloc (by rw [s1]; omega) _).alloc (by rw [s2]; omega) _)⟩
  · rw [heap_alloc_old _ _ (r := w0.heap.size) (by rw [s2]; omega), heap_alloc_old _ _ (r := w0.heap.size) (by rw [s1]; omega), h1, hL]
  · rw [heap_alloc_old _ _ (r := w0.heap.size + 1) (by rw [s2]; omega), h2, hE]
theorem cell7 {w : World} {b : Nat} {u0 u1 u2 u3 u4 u5 u6 : Value} {T : TypeId} (h : w.heap[b]? = some (.cells #[u0, u1, u2, u3, u4, u5, u6] T (0, 0))) :
    (w.cell? ⟨b, 0, none⟩ = some u0 ∧ w.cell? ⟨b, 1, none⟩ = some u1 ∧ w.cell? ⟨b, 2, none⟩ = some u2 ∧ w.cell? ⟨b, 3, none⟩ = some u3 ∧ w.cell? ⟨b, 4, none⟩ = some u4 ∧ w.cell? ⟨b, 5, none⟩ = some u5 ∧ w.cell? ⟨b, 6, none⟩ = some u6) ∧
    (∀ j, w.frozen? ⟨b, j, none⟩ = false) :=
  ⟨⟨by rw [cell_of_row _ _ _ _ _ _ h]; rfl, by rw [cell_of_row _ _ _ _ _ _ h]; rfl, by rw [cell_of_row _ _ _ _ _ _ h]; rfl, by rw [cell_of_row _ _ _ _ _ _ h]; rfl, by rw [cell_of_row _ _ _ _ _ _ h]; rfl, by rw [cell_of_row _ _ _ _ _ _ h]; rfl, by rw [cell_of_row _ _ _ _ _ _ h]; rfl⟩,
   fun j => frozen_of_row _ _ _ _ _ h⟩
theorem put7 {w : World} {g : Nat} {u0 u1 u2 u3 u4 u5 u6 v0 v1 v2 v3 v4 v5 v6 : Value} {T : TypeId} (h : w.heap[g]? = some (.cells #[u0, u1, u2, u3, u4, u5, u6] T (0, 0))) :
    (((((((w.setCell ⟨g, 0, none⟩ v0).setCell ⟨g, 1, none⟩ v1).setCell ⟨g, 2, none⟩ v2).setCell ⟨g, 3, none⟩ v3).setCell ⟨g, 4, none⟩ v4).setCell ⟨g, 5, none⟩ v5).setCell ⟨g, 6, none⟩ v6).heap[g]? = some (.cells #[v0, v1, v2, v3, v4, v5, v6] T (0, 0)) := by
  have h0 : (w.setCell ⟨g, 0, none⟩ v0).heap[g]? = some (.cells #[v0, u1, u2, u3, u4, u5, u6] T (0, 0)) := heap_setCell_same w g 0 _ _ v0 h
  generalize w.setCell ⟨g, 0, none⟩ v0 = w at *
  have h1 : (w.setCell ⟨g, 1, none⟩ v1).heap[g]? = some (.cells #[v0, v1, u2, u3, u4, u5, u6] T (0, 0)) := heap_setCell_same w g 1 _ _ v1 h0
  generalize w.setCell ⟨g, 1, none⟩ v1 = w at *
  have h2 : (w.setCell ⟨g, 2, none⟩ v2).heap[g]? = some (.cells #[v0, v1, v2, u3, u4, u5, u6] T (0, 0)) := heap_setCell_same w g 2 _ _ v2 h1
  generalize w.setCell ⟨g, 2, none⟩ v2 = w at *
  have h3 : (w.setCell ⟨g, 3, none⟩ v3).heap[g]? = some (.cells #[v0, v1, v2, v3, u4, u5, u6] T (0, 0)) := heap_setCell_same w g 3 _ _ v3 h2
  generalize w.setCell ⟨g, 3, none⟩ v3 = w at *
  have h4 : (w.setCell ⟨g, 4, none⟩ v4).heap[g]? = some (.cells #[v0, v1, v2, v3, v4, u5, u6] T (0, 0)) := heap_setCell_same w g 4 _ _ v4 h3
  generalize w.setCell ⟨g, 4, none⟩ v4 = w at *
  have h5 : (w.setCell ⟨g, 5, none⟩ v5).heap[g]? = some (.cells #[v0, v1, v2, v3, v4, v5, u6] T (0, 0)) := heap_setCell_same w g 5 _ _ v5 h4
  generalize w.setCell ⟨g, 5, none⟩ v5 = w at *
  exact heap_setCell_same w g 6 _ _ v6 h5
theorem put7b {a w : World} {B g : Nat} {v0 v1 v2 v3 v4 v5 v6 : Value} (h : Below B a w) (hg : B ≤ g) :
    Below B a (((((((w.setCell ⟨g, 0, none⟩ v0).setCell ⟨g, 1, none⟩ v1).setCell ⟨g, 2, none⟩ v2).setCell ⟨g, 3, none⟩ v3).setCell ⟨g, 4, none⟩ v4).setCell ⟨g, 5, none⟩ v5).setCell ⟨g, 6, none⟩ v6) :=
  Below.cellP (Below.cellP (Below.cellP (Below.cellP (Below.cellP (Below.cellP (Below.cellP h hg _) hg _) hg _) hg _) hg _) hg _) hg _
set_option maxRecDepth 100000 in
set_option maxHeartbeats 4000000 in
theorem changed_1 (a : Rg.Lt) (lot : Txt) (n : Int) (w : World) (ht : Tame a) (hn : 0 ≤ n ∧ n ≤ 1048576) :
    Calls Tryz.prog 126 #[lotV a, entV ⟨1, lot, n⟩] w (Ret w (.tuple #[lotV (Rg.changed a ⟨1, lot, n⟩).1, .int .i64 (Rg.changed a ⟨1, lot, n⟩).2])) := by
  have HL := Lib.hid (fun W => rleft_c a W ht)
  have hC : Rg.changed a ⟨1, lot, n⟩ = _ := rfl
  obtain ⟨nm, sz, gd, bd, cn, sc, st⟩ := a
  obtain ⟨⟨-, b0⟩, ⟨b1, b2⟩, ⟨b3, b4⟩, ⟨b5, b6⟩, ⟨b7, b8⟩⟩ := ht
  simp only at b0 b1 b2 b3 b4 b5 b6 b7 b8
  have hC : Rg.changed ⟨nm, sz, gd, bd, cn, sc, st⟩ ⟨1, lot, n⟩ = (if st ≠ 0 then (⟨nm, sz, gd, bd, cn, sc, st⟩, (14 : Int)) else if Rg.left ⟨nm, sz, gd, bd, cn, sc, st⟩ < n then (⟨nm, sz, gd, bd, cn, sc, st⟩, 16) else (⟨nm, sz, gd + n, bd, cn, sc, st⟩, 0)) := rfl
  generalize Rg.left ⟨nm, sz, gd, bd, cn, sc, st⟩ = L at *
  generalize Rg.changed ⟨nm, sz, gd, bd, cn, sc, st⟩ ⟨1, lot, n⟩ = R at *
  by_cases h0 : st ≠ 0
  · obtain rfl : R = (⟨nm, sz, gd, bd, cn, sc, st⟩, 14) := by rw [hC, if_pos h0]
    have y0 : (st != 0) = true := bne_iff_ne.2 h0
    clear hC HL h0
    go_enter Tryz.func126, Tryz.ntmps126
    go_upto_region 1 with fail
    have J := LEW.new w ⟨nm, sz, gd, bd, cn, sc, st⟩ ⟨1, lot, n⟩
    generalize World.alloc _ _ = W at J ⊢
    obtain ⟨⟨c0, c1, c2, c3, c4, c5, c6⟩, cf⟩ := cell7 J.c
    obtain ⟨e0, e1, e2⟩ := cell3 J.e
    obtain ⟨⟨r0, r1, r2, r3, r4, r5, r6⟩, rf⟩ := cell7 J.r
    have f2 := cf 2; have f3 := cf 3; have f4 := cf 4; have f5 := cf 5; have f6 := cf 6
    have z0 := rf 0; have z1 := rf 1; have z2 := rf 2; have z3 := rf 3; have z4 := rf 4; have z5 := rf 5; have z6 := rf 6
    have HJ := Lib.hid J
    clear cf rf J
    go_wp2
    refine bodyPost_ret (results_cell_row_tmp rfl _ _ (w.heap.size + 2) 98 _ _ _ (by kernel_rfl) (put7 HJ.out.r) Tryz.underlying98 rfl (by kernel_rfl)) rfl ?_
    exact ⟨rfl, put7b HJ.out.w (by omega)⟩
  rw [if_neg h0] at hC
  obtain rfl : st = 0 := Decidable.not_not.1 h0
  by_cases h1 : L < n
  · obtain rfl : R = (⟨nm, sz, gd, bd, cn, sc, 0⟩, 16) := by rw [hC, if_pos h1]
    clear hC
    go_enter Tryz.func126, Tryz.ntmps126
    go_upto_region 1 with fail
    have J := LEW.new w ⟨nm, sz, gd, bd, cn, sc, 0⟩ ⟨1, lot, n⟩
    generalize World.alloc _ _ = W at J ⊢
    obtain ⟨⟨c0, c1, c2, c3, c4, c5, c6⟩, cf⟩ := cell7 J.c
    obtain ⟨e0, e1, e2⟩ := cell3 J.e
    obtain ⟨⟨r0, r1, r2, r3, r4, r5, r6⟩, rf⟩ := cell7 J.r
    have f2 := cf 2; have f3 := cf 3; have f4 := cf 4; have f5 := cf 5; have f6 := cf 6
    have z0 := rf 0; have z1 := rf 1; have z2 := rf 2; have z3 := rf 3; have z4 := rf 4; have z5 := rf 5; have z6 := rf 6
    have HJ := Lib.hid J
    clear cf rf J
    go_wp2_with fail
    go_region_with (first
      | (go_at_call 147; (with_reducible refine (HL.out _).mono ?_); rintro e w1 ⟨rfl, hb1⟩; have hb1' : Below W.heap.size W w1 := ⟨hb1.os, hb1.tape, hb1.output, hb1.size, hb1.block⟩; obtain ⟨e0', e1', e2'⟩ := cell3 (HJ.out.later hb1').e)
      | fail)
    all_goals
      have J1 := HJ.out.later hb1'
      clear c0 c1 c2 c3 c4 c5 c6 e0 e1 e2 r0 r1 r2 r3 r4 r5 r6 f2 f3 f4 f5 f6 z0 z1 z2 z3 z4 z5 z6 e0' e1' e2' hb1 hb1'
      obtain ⟨⟨c0, c1, c2, c3, c4, c5, c6⟩, cf⟩ := cell7 J1.c
      obtain ⟨e0, e1, e2⟩ := cell3 J1.e
      obtain ⟨⟨r0, r1, r2, r3, r4, r5, r6⟩, rf⟩ := cell7 J1.r
      have f2 := cf 2; have f3 := cf 3; have f4 := cf 4; have f5 := cf 5; have f6 := cf 6
      have z0 := rf 0; have z1 := rf 1; have z2 := rf 2; have z3 := rf 3; have z4 := rf 4; have z5 := rf 5; have z6 := rf 6
      have HJ1 := Lib.hid J1
      clear cf rf J1
      go_wp2
      refine bodyPost_ret (results_cell_row_tmp rfl _ _ (w.heap.size + 2) 98 _ _ _ (by kernel_rfl) (put7 HJ1.out.r) Tryz.underlying98 rfl (by kernel_rfl)) rfl ?_
      exact ⟨rfl, put7b HJ1.out.w (by omega)⟩
  rw [if_neg h1] at hC
  have w_gd : IntKind.i64.wrap (gd + n) = gd + n := IntWalk.i64_in _ (by omega)
  obtain ⟨u_gd, q_gd⟩ : ∃ u, gd + n = u := ⟨_, rfl⟩
  rw [q_gd] at hC
  have j_gd : IntKind.i64.wrap (gd + n) = u_gd := by rw [w_gd, q_gd]
  obtain rfl : R = (⟨nm, sz, u_gd, bd, cn, sc, 0⟩, 0) := hC
  clear b0 b1 b2 b3 b4 b5 b6 b7 b8 w_gd q_gd hn
  go_enter Tryz.func126, Tryz.ntmps126
  go_upto_region 1 with fail
  have J := LEW.new w ⟨nm, sz, gd, bd, cn, sc, 0⟩ ⟨1, lot, n⟩
  generalize World.alloc _ _ = W at J ⊢
  obtain ⟨⟨c0, c1, c2, c3, c4, c5, c6⟩, cf⟩ := cell7 J.c
  obtain ⟨e0, e1, e2⟩ := cell3 J.e
  obtain ⟨⟨r0, r1, r2, r3, r4, r5, r6⟩, rf⟩ := cell7 J.r
  have f2 := cf 2; have f3 := cf 3; have f4 := cf 4; have f5 := cf 5; have f6 := cf 6
  have z0 := rf 0; have z1 := rf 1; have z2 := rf 2; have z3 := rf 3; have z4 := rf 4; have z5 := rf 5; have z6 := rf 6
  have HJ := Lib.hid J
  clear cf rf J
  go_wp2_with fail
  go_region_with (first
    | (go_at_call 147; (with_reducible refine (HL.out _).mono ?_); rintro e w1 ⟨rfl, hb1⟩; have hb1' : Below W.heap.size W w1 := ⟨hb1.os, hb1.tape, hb1.output, hb1.size, hb1.block⟩; obtain ⟨e0', e1', e2'⟩ := cell3 (HJ.out.later hb1').e)
    | fail)
  all_goals
    have J1 := HJ.out.later hb1'
    clear c0 c1 c2 c3 c4 c5 c6 e0 e1 e2 r0 r1 r2 r3 r4 r5 r6 f2 f3 f4 f5 f6 z0 z1 z2 z3 z4 z5 z6 e0' e1' e2' hb1 hb1'
    obtain ⟨⟨c0, c1, c2, c3, c4, c5, c6⟩, cf⟩ := cell7 J1.c
    obtain ⟨e0, e1, e2⟩ := cell3 J1.e
    obtain ⟨⟨r0, r1, r2, r3, r4, r5, r6⟩, rf⟩ := cell7 J1.r
    have f2 := cf 2; have f3 := cf 3; have f4 := cf 4; have f5 := cf 5; have f6 := cf 6
    have z0 := rf 0; have z1 := rf 1; have z2 := rf 2; have z3 := rf 3; have z4 := rf 4; have z5 := rf 5; have z6 := rf 6
    have HJ1 := Lib.hid J1
    clear cf rf J1
    go_wp2
    refine bodyPost_ret (results_cell_row_tmp rfl _ _ (w.heap.size + 2) 98 _ _ _ (by kernel_rfl) (put7 ((heap_setCell_other _ _ _ _ (by show _ ≠ w.heap.size; omega)).trans HJ1.out.r)) Tryz.underlying98 rfl (by kernel_rfl)) rfl ?_
    exact ⟨rfl, put7b (Below.cellP HJ1.out.w (Nat.le_refl _) _) (by omega)⟩
set_option maxRecDepth 100000 in
set_option maxHeartbeats 4000000 in
theorem changed_3 (a : Rg.Lt) (lot : Txt) (n : Int) (w : World) (ht : Tame a) (hn : 0 ≤ n ∧ n ≤ 1048576) :
    Calls Tryz.prog 126 #[lotV a, entV ⟨3, lot, n⟩] w (Ret w (.tuple #[lotV (Rg.changed a ⟨3, lot, n⟩).1, .int .i64 (Rg.changed a ⟨3, lot, n⟩).2])) := by
  have HL := Lib.hid (fun W => rleft_c a W ht)
  have hC : Rg.changed a ⟨3, lot, n⟩ = _ := rfl
  obtain ⟨nm, sz, gd, bd, cn, sc, st⟩ := a
  obtain ⟨⟨-, b0⟩, ⟨b1, b2⟩, ⟨b3, b4⟩, ⟨b5, b6⟩, ⟨b7, b8⟩⟩ := ht
  simp only at b0 b1 b2 b3 b4 b5 b6 b7 b8
  have hC : Rg.changed ⟨nm, sz, gd, bd, cn, sc, st⟩ ⟨3, lot, n⟩ = (if st = 2 then (⟨nm, sz, gd, bd, cn, sc, st⟩, (14 : Int)) else if bd < n then (⟨nm, sz, gd, bd, cn, sc, st⟩, 16) else (⟨nm, sz, gd, bd - n, cn + n, sc, st⟩, 0)) := rfl
  generalize Rg.left ⟨nm, sz, gd, bd, cn, sc, st⟩ = L at *
  generalize Rg.changed ⟨nm, sz, gd, bd, cn, sc, st⟩ ⟨3, lot, n⟩ = R at *
  by_cases h0 : st = 2
  · obtain rfl : R = (⟨nm, sz, gd, bd, cn, sc, st⟩, 14) := by rw [hC, if_pos h0]
    have y0 : (st == 2) = true := beq_iff_eq.2 h0
    clear hC HL h0
    go_enter Tryz.func126, Tryz.ntmps126
    go_upto_region 1 with fail
    have J := LEW.new w ⟨nm, sz, gd, bd, cn, sc, st⟩ ⟨3, lot, n⟩
    generalize World.alloc _ _ = W at J ⊢
    obtain ⟨⟨c0, c1, c2, c3, c4, c5, c6⟩, cf⟩ := cell7 J.c
    obtain ⟨e0, e1, e2⟩ := cell3 J.e
    obtain ⟨⟨r0, r1, r2, r3, r4, r5, r6⟩, rf⟩ := cell7 J.r
    have f2 := cf 2; have f3 := cf 3; have f4 := cf 4; have f5 := cf 5; have f6 := cf 6
    have z0 := rf 0; have z1 := rf 1; have z2 := rf 2; have z3 := rf 3; have z4 := rf 4; have z5 := rf 5; have z6 := rf 6
    have HJ := Lib.hid J
    clear cf rf J
    go_wp2
    refine bodyPost_ret (results_cell_row_tmp rfl _ _ (w.heap.size + 2) 98 _ _ _ (by kernel_rfl) (put7 HJ.out.r) Tryz.underlying98 rfl (by kernel_rfl)) rfl ?_
    exact ⟨rfl, put7b HJ.out.w (by omega)⟩
  rw [if_neg h0] at hC
  have y0 : (st == 2) = false := beq_eq_false_iff_ne.2 h0
  by_cases h1 : bd < n
  · obtain rfl : R = (⟨nm, sz, gd, bd, cn, sc, st⟩, 16) := by rw [hC, if_pos h1]
    clear hC
    go_enter Tryz.func126, Tryz.ntmps126
    go_upto_region 1 with fail
    have J := LEW.new w ⟨nm, sz, gd, bd, cn, sc, st⟩ ⟨3, lot, n⟩
    generalize World.alloc _ _ = W at J ⊢
    obtain ⟨⟨c0, c1, c2, c3, c4, c5, c6⟩, cf⟩ := cell7 J.c
    obtain ⟨e0, e1, e2⟩ := cell3 J.e
    obtain ⟨⟨r0, r1, r2, r3, r4, r5, r6⟩, rf⟩ := cell7 J.r
    have f2 := cf 2; have f3 := cf 3; have f4 := cf 4; have f5 := cf 5; have f6 := cf 6
    have z0 := rf 0; have z1 := rf 1; have z2 := rf 2; have z3 := rf 3; have z4 := rf 4; have z5 := rf 5; have z6 := rf 6
    have HJ := Lib.hid J
    clear cf rf J
    go_wp2
    refine bodyPost_ret (results_cell_row_tmp rfl _ _ (w.heap.size + 2) 98 _ _ _ (by kernel_rfl) (put7 HJ.out.r) Tryz.underlying98 rfl (by kernel_rfl)) rfl ?_
    exact ⟨rfl, put7b HJ.out.w (by omega)⟩
  rw [if_neg h1] at hC
  have w_bd : IntKind.i64.wrap (bd - n) = bd - n := IntWalk.i64_in _ (by omega)
  obtain ⟨u_bd, q_bd⟩ : ∃ u, bd - n = u := ⟨_, rfl⟩
  rw [q_bd] at hC
  have j_bd : IntKind.i64.wrap (bd - n) = u_bd := by rw [w_bd, q_bd]
  have w_cn : IntKind.i64.wrap (cn + n) = cn + n := IntWalk.i64_in _ (by omega)
  obtain ⟨u_cn, q_cn⟩ : ∃ u, cn + n = u := ⟨_, rfl⟩
  rw [q_cn] at hC
  have j_cn : IntKind.i64.wrap (cn + n) = u_cn := by rw [w_cn, q_cn]
  obtain rfl : R = (⟨nm, sz, gd, u_bd, u_cn, sc, st⟩, 0) := hC
  clear b0 b1 b2 b3 b4 b5 b6 b7 b8 w_bd q_bd w_cn q_cn hn
  go_enter Tryz.func126, Tryz.ntmps126
  go_upto_region 1 with fail
  have J := LEW.new w ⟨nm, sz, gd, bd, cn, sc, st⟩ ⟨3, lot, n⟩
  generalize World.alloc _ _ = W at J ⊢
  obtain ⟨⟨c0, c1, c2, c3, c4, c5, c6⟩, cf⟩ := cell7 J.c
  obtain ⟨e0, e1, e2⟩ := cell3 J.e
  obtain ⟨⟨r0, r1, r2, r3, r4, r5, r6⟩, rf⟩ := cell7 J.r
  have f2 := cf 2; have f3 := cf 3; have f4 := cf 4; have f5 := cf 5; have f6 := cf 6
  have z0 := rf 0; have z1 := rf 1; have z2 := rf 2; have z3 := rf 3; have z4 := rf 4; have z5 := rf 5; have z6 := rf 6
  have HJ := Lib.hid J
  clear cf rf J
  go_wp2
  refine bodyPost_ret (results_cell_row_tmp rfl _ _ (w.heap.size + 2) 98 _ _ _ (by kernel_rfl) (put7 ((heap_setCell_other _ _ _ _ (by show _ ≠ w.heap.size; omega)).trans ((heap_setCell_other _ _ _ _ (by show _ ≠ w.heap.size; omega)).trans HJ.out.r))) Tryz.underlying98 rfl (by kernel_rfl)) rfl ?_
  exact ⟨rfl, put7b (Below.cellP (Below.cellP HJ.out.w (Nat.le_refl _) _) (Nat.le_refl _) _) (by omega)⟩
set_option maxRecDepth 100000 in
set_option maxHeartbeats 4000000 in
theorem changed_6 (a : Rg.Lt) (lot : Txt) (n : Int) (w : World) (ht : Tame a) (_ : 0 ≤ n ∧ n ≤ 1048576) :
    Calls Tryz.prog 126 #[lotV a, entV ⟨6, lot, n⟩] w (Ret w (.tuple #[lotV (Rg.changed a ⟨6, lot, n⟩).1, .int .i64 (Rg.changed a ⟨6, lot, n⟩).2])) := by
  have HL := Lib.hid (fun W => rleft_c a W ht)
  have hC : Rg.changed a ⟨6, lot, n⟩ = _ := rfl
  obtain ⟨nm, sz, gd, bd, cn, sc, st⟩ := a
  obtain ⟨⟨-, b0⟩, ⟨b1, b2⟩, ⟨b3, b4⟩, ⟨b5, b6⟩, ⟨b7, b8⟩⟩ := ht
  simp only at b0 b1 b2 b3 b4 b5 b6 b7 b8
  have hC : Rg.changed ⟨nm, sz, gd, bd, cn, sc, st⟩ ⟨6, lot, n⟩ = (if st ≠ 1 then (⟨nm, sz, gd, bd, cn, sc, st⟩, (14 : Int)) else if 0 < bd then (⟨nm, sz, gd, bd, cn, sc, st⟩, 16) else (⟨nm, sz, gd, bd, cn, sc, 2⟩, 0)) := rfl
  generalize Rg.left ⟨nm, sz, gd, bd, cn, sc, st⟩ = L at *
  generalize Rg.changed ⟨nm, sz, gd, bd, cn, sc, st⟩ ⟨6, lot, n⟩ = R at *
  by_cases h0 : st ≠ 1
  · obtain rfl : R = (⟨nm, sz, gd, bd, cn, sc, st⟩, 14) := by rw [hC, if_pos h0]
    have y0 : (st != 1) = true := bne_iff_ne.2 h0
    clear hC HL h0
    go_enter Tryz.func126, Tryz.ntmps126
    go_upto_region 1 with fail
    have J := LEW.new w ⟨nm, sz, gd, bd, cn, sc, st⟩ ⟨6, lot, n⟩
    generalize World.alloc _ _ = W at J ⊢
    obtain ⟨⟨c0, c1, c2, c3, c4, c5, c6⟩, cf⟩ := cell7 J.c
    obtain ⟨e0, e1, e2⟩ := cell3 J.e
    obtain ⟨⟨r0, r1, r2, r3, r4, r5, r6⟩, rf⟩ := cell7 J.r
    have f2 := cf 2; have f3 := cf 3; have f4 := cf 4; have f5 := cf 5; have f6 := cf 6
    have z0 := rf 0; have z1 := rf 1; have z2 := rf 2; have z3 := rf 3; have z4 := rf 4; have z5 := rf 5; have z6 := rf 6
    have HJ := Lib.hid J
    clear cf rf J
    go_wp2
    refine bodyPost_ret (results_cell_row_tmp rfl _ _ (w.heap.size + 2) 98 _ _ _ (by kernel_rfl) (put7 HJ.out.r) Tryz.underlying98 rfl (by kernel_rfl)) rfl ?_
    exact ⟨rfl, put7b HJ.out.w (by omega)⟩
  rw [if_neg h0] at hC
  obtain rfl : st = 1 := Decidable.not_not.1 h0
  by_cases h1 : 0 < bd
  · obtain rfl : R = (⟨nm, sz, gd, bd, cn, sc, 1⟩, 16) := by rw [hC, if_pos h1]
    clear hC
    go_enter Tryz.func126, Tryz.ntmps126
    go_upto_region 1 with fail
    have J := LEW.new w ⟨nm, sz, gd, bd, cn, sc, 1⟩ ⟨6, lot, n⟩
    generalize World.alloc _ _ = W at J ⊢
    obtain ⟨⟨c0, c1, c2, c3, c4, c5, c6⟩, cf⟩ := cell7 J.c
    obtain ⟨e0, e1, e2⟩ := cell3 J.e
    obtain ⟨⟨r0, r1, r2, r3, r4, r5, r6⟩, rf⟩ := cell7 J.r
    have f2 := cf 2; have f3 := cf 3; have f4 := cf 4; have f5 := cf 5; have f6 := cf 6
    have z0 := rf 0; have z1 := rf 1; have z2 := rf 2; have z3 := rf 3; have z4 := rf 4; have z5 := rf 5; have z6 := rf 6
    have HJ := Lib.hid J
    clear cf rf J
    go_wp2
    refine bodyPost_ret (results_cell_row_tmp rfl _ _ (w.heap.size + 2) 98 _ _ _ (by kernel_rfl) (put7 HJ.out.r) Tryz.underlying98 rfl (by kernel_rfl)) rfl ?_
    exact ⟨rfl, put7b HJ.out.w (by omega)⟩
  rw [if_neg h1] at hC
  obtain rfl : R = (⟨nm, sz, gd, bd, cn, sc, 2⟩, 0) := hC
  clear b0 b1 b2 b3 b4 b5 b6 b7 b8
  go_enter Tryz.func126, Tryz.ntmps126
  go_upto_region 1 with fail
  have J := LEW.new w ⟨nm, sz, gd, bd, cn, sc, 1⟩ ⟨6, lot, n⟩
  generalize World.alloc _ _ = W at J ⊢
  obtain ⟨⟨c0, c1, c2, c3, c4, c5, c6⟩, cf⟩ := cell7 J.c
  obtain ⟨e0, e1, e2⟩ := cell3 J.e
  obtain ⟨⟨r0, r1, r2, r3, r4, r5, r6⟩, rf⟩ := cell7 J.r
  have f2 := cf 2; have f3 := cf 3; have f4 := cf 4; have f5 := cf 5; have f6 := cf 6
  have z0 := rf 0; have z1 := rf 1; have z2 := rf 2; have z3 := rf 3; have z4 := rf 4; have z5 := rf 5; have z6 := rf 6
  have HJ := Lib.hid J
  clear cf rf J
  go_wp2
  refine bodyPost_ret (results_cell_row_tmp rfl _ _ (w.heap.size + 2) 98 _ _ _ (by kernel_rfl) (put7 ((heap_setCell_other _ _ _ _ (by show _ ≠ w.heap.size; omega)).trans HJ.out.r)) Tryz.underlying98 rfl (by kernel_rfl)) rfl ?_
  exact ⟨rfl, put7b (Below.cellP HJ.out.w (Nat.le_refl _) _) (by omega)⟩
end Go.Proofs.Wk
