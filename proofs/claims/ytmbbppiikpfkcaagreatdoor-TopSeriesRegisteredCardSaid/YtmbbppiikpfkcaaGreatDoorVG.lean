/- REGISTERS OF LOTS: Text. -/
import Derived.Test.YtmbbppiikpfkcaaGreatDoorVF
import Derived.Test.YtmbbppiikpfkcaaGreatDoorHI
import Derived.Deep.RegionHeld3
import Derived.Laws.Concat
namespace Go.Proofs.Wk
open Go.RowKit Mt

theorem txt_app (a b : Txt) : (⟨a.toArray⟩ : ByteArray) ++ ⟨b.toArray⟩ = ⟨(a ++ b).toArray⟩ := by
  apply ByteArray.ext; simp
theorem set3 {w2 : World} {b : Nat} {u0 u1 v0 v1 v2 : Value} (z0 : w2.cell? ⟨b, 0, none⟩ = some u0) (z1 : w2.cell? ⟨b, 1, none⟩ = some u1) :
    (((w2.setCell ⟨b, 0, none⟩ v0).setCell ⟨b, 1, none⟩ v1).setCell ⟨b, 2, none⟩ v2).cell? ⟨b, 0, none⟩ = some v0 ∧ (((w2.setCell ⟨b, 0, none⟩ v0).setCell ⟨b, 1, none⟩ v1).setCell ⟨b, 2, none⟩ v2).cell? ⟨b, 1, none⟩ = some v1 ∧
    (∀ q : Addr, q.block ≠ b → (((w2.setCell ⟨b, 0, none⟩ v0).setCell ⟨b, 1, none⟩ v1).setCell ⟨b, 2, none⟩ v2).cell? q = w2.cell? q) := by
  refine ⟨?_, ?_, fun q hq => ?_⟩
  · rw [World.cell?_setCell_other _ _ _ _ (by simp), World.cell?_setCell_other _ _ _ _ (by simp), World.cell?_setCell_same _ _ _ z0]
  · rw [World.cell?_setCell_other _ _ _ _ (by simp), World.cell?_setCell_same _ _ _ ((World.cell?_setCell_other _ _ _ _ (by simp)).trans z1)]
  · have h : ∀ j, (⟨b, j, none⟩ : Addr) ≠ q := fun j e => hq (by rw [← e])
    rw [World.cell?_setCell_other _ _ _ _ (h 2), World.cell?_setCell_other _ _ _ _ (h 1), World.cell?_setCell_other _ _ _ _ (h 0)]
theorem cat_run {P : Program} (a b : Txt) (h : a.length + b.length ≤ 281474976710656) (w : World) : (Op.stringOp .add ⟨a.toArray⟩ ⟨b.toArray⟩).run P w = .ok (.string ⟨(a ++ b).toArray⟩) w := by
  rw [run_string_add_sum w _ _ (by simp [ByteArray.size]; omega), ByteArray.mk_append_mk]
set_option maxRecDepth 100000 in
set_option maxHeartbeats 2000000 in
theorem text_0 (lot : Txt) (n : Int) (w : World) (hg : Good w) (hl : lot.length ≤ 140737488355328) (hr : Rg.rightE ⟨0, lot, n⟩ = 0) :
    Calls Tryz.prog 27 #[entV ⟨0, lot, n⟩] w (Ret w (ans2 (Rg.writ ⟨0, lot, n⟩, 0))) := by
  have HR := Lib.hid (fun W => right_g ⟨0, lot, n⟩ W hl)
  have HW := Lib.hid (fun W => rows_c W)
  have HG := Lib.hid hg
  rw [hr] at HR
  have hnn := (Rg.rightE_iff _).1 hr
  simp only at hnn
  have HI := Lib.hid (fun W hW => Itoa_c n W hW (by omega) (by omega))
  have hwl := Rg.writ_len hr
  rw [show Rg.writ ⟨0, lot, n⟩ = [111, 112, 101, 110] ++ 32 :: (lot ++ 32 :: Lib.itoa n) from rfl] at hwl ⊢
  simp only [List.length_append, List.length_cons, List.length_nil] at hwl
  obtain ⟨U1, q1⟩ : ∃ U1 : Txt, [111, 112, 101, 110, 32] ++ lot = U1 := ⟨_, rfl⟩
  obtain ⟨U2, q2⟩ : ∃ U2 : Txt, U1 ++ [32] = U2 := ⟨_, rfl⟩
  obtain ⟨U3, q3⟩ : ∃ U3 : Txt, U2 ++ Lib.itoa n = U3 := ⟨_, rfl⟩
  have l1 : U1.length ≤ 100 := by rw [← q1, List.length_append, List.length_cons]; simp only [List.length_cons, List.length_nil]; omega
  have l2 : U2.length ≤ 101 := by rw [← q2, List.length_append, List.length_cons]; simp only [List.length_nil]; omega
  have g1 : ∀ W, (Op.stringOp .add ⟨#[111, 112, 101, 110, 32]⟩ ⟨lot.toArray⟩).run Tryz.prog W = .ok (.string ⟨U1.toArray⟩) W := fun W => by rw [← q1]; exact cat_run [111, 112, 101, 110, 32] lot (by simp only [List.length_cons, List.length_nil]; omega) W
  have g2 : ∀ W, (Op.stringOp .add ⟨U1.toArray⟩ ⟨#[32]⟩).run Tryz.prog W = .ok (.string ⟨U2.toArray⟩) W := fun W => by rw [← q2]; exact cat_run U1 [32] (by simp only [List.length_cons, List.length_nil]; omega) W
  have g3 : ∀ W, (Op.stringOp .add ⟨U2.toArray⟩ ⟨(Lib.itoa n).toArray⟩).run Tryz.prog W = .ok (.string ⟨U3.toArray⟩) W := fun W => by rw [← q3]; exact cat_run U2 _ (by omega) W
  rw [show [111, 112, 101, 110] ++ 32 :: (lot ++ 32 :: Lib.itoa n) = U3 by rw [← q3, ← q2, ← q1]; simp]
  generalize Lib.itoa n = tn at *
  clear q1 q2 q3 l1 l2 hwl
  have J := BX.new w #[.int .i64 0, .string ⟨lot.toArray⟩, .int .i64 n] 28
  have hix : ∀ W, (Instr.index 100 rowsV (.int .i64 0)).run Tryz.prog W = .ok (.agg #[.string ⟨#[111, 112, 101, 110]⟩, .bool false, .nilFunc]) W := fun W => by
    simp [Instr.index, run_underlying Tryz.underlying100, asIntOf, part, Tryz.isAgg99, Tryz.sizeOf99]
  clear hr hg
  go_enter Tryz.func27, Tryz.ntmps27
  go_wp2_with fail
  ((with_reducible refine (HR.out _).mono ?_); rintro e w1 ⟨rfl, hb1⟩)
  have J1 := J.later hb1
  obtain ⟨d0, d1, d2⟩ := cell3 J1.c
  have HJ1 := Lib.hid J1
  clear J J1 hb1
  go_upto_region 4 with fail
  have HLT : w.heap.size < w1.heap.size := (Array.getElem?_eq_some_iff.1 HJ1.out.c).1
  have a0 : ∀ o, (w1.alloc o).cell? ⟨w.heap.size, 0, none⟩ = some (.int .i64 0) := fun o => (World.cell?_alloc_lt w1 o ⟨w.heap.size, 0, none⟩ HLT).trans d0
  go_cut [5] (fun s5 wx => ∃ g, s5 = .pointer (some ⟨g, 0, none⟩) ∧ wx.cell? ⟨g, 0, none⟩ = some (.string ⟨#[111, 112, 101, 110]⟩) ∧ wx.cell? ⟨g, 1, none⟩ = some (.bool false) ∧ (wx.cell? ⟨w.heap.size, 1, none⟩ = some (.string ⟨lot.toArray⟩) ∧ wx.cell? ⟨w.heap.size, 2, none⟩ = some (.int .i64 n)) ∧ Hid (Below w.heap.size w wx))
  case first =>
    go_region_with (first
      | (go_at_call 46; (with_reducible refine (HW.out _).mono ?_); rintro e w2 ⟨rfl, hb2⟩;
          (first
            | (have hb2' : Below w1.heap.size w1 w2 := ⟨hb2.os, hb2.tape, hb2.output, hb2.size, hb2.block⟩; obtain ⟨s0, s1, s2⟩ := cell3 (HJ1.out.later hb2').c; have hlt2 : w.heap.size < w2.heap.size := Nat.lt_of_lt_of_le HLT hb2'.size; have hbw := Lib.hid (HJ1.out.later hb2').w)
            | (have hb2' : Below w1.heap.size w1 w2 := ((Below.refl _ _).alloc (Nat.le_refl _) (.cells #[.string ⟨#[]⟩, .bool false, .nilFunc] 99)).trans ⟨hb2.os, hb2.tape, hb2.output, hb2.size, fun k hk => hb2.block k (Nat.lt_trans hk (alloc_lt w1 _))⟩;
               obtain ⟨s0, s1, s2⟩ := cell3 (HJ1.out.later hb2').c; have hlt2 : w.heap.size < w2.heap.size := Nat.lt_of_lt_of_le HLT hb2'.size; have hbw := Lib.hid (HJ1.out.later hb2').w; have hzz := (hb2.block _ (alloc_lt w1 _)).trans (heap_alloc_new w1 (.cells #[.string ⟨#[]⟩, .bool false, .nilFunc] 99));
               obtain ⟨z0, z1, z2⟩ := cell3 hzz; have f0 : ∀ j, w2.frozen? ⟨w1.heap.size, j, none⟩ = false := (fun j => by simp [World.frozen?, hzz]))))
      | fail)
    all_goals (go_wp2_with fail; go_meet)
    all_goals
      first
        | exact ⟨_, rfl, (cell3 (heap_alloc_new w2 _)).1, (cell3 (heap_alloc_new w2 _)).2.1, ⟨(World.cell?_alloc_lt w2 _ ⟨w.heap.size, 1, none⟩ hlt2).trans s1, (World.cell?_alloc_lt w2 _ ⟨w.heap.size, 2, none⟩ hlt2).trans s2⟩, hbw.out.alloc hbw.out.size _⟩
        | (obtain ⟨t0, t1, t2⟩ := set3 (v0 := .string ⟨#[111, 112, 101, 110]⟩) (v1 := .bool false) (v2 := .nilFunc) z0 z1
           exact ⟨_, rfl, t0, t1, ⟨(t2 ⟨w.heap.size, 1, none⟩ (Nat.ne_of_lt HLT)).trans s1, (t2 ⟨w.heap.size, 2, none⟩ (Nat.ne_of_lt HLT)).trans s2⟩, Below.cellP (Below.cellP (Below.cellP hbw.out HJ1.out.w.size _) HJ1.out.w.size _) HJ1.out.w.size _⟩)
  case rest =>
    obtain ⟨g, rfl, c0, c1, ⟨e1, e2⟩, HB⟩ := hcut
    go_wp2_with fail
    have HX := Lib.hid (show g < wc.heap.size ∧ w.heap.size < wc.heap.size from ⟨World.block_lt_of_cell? wc _ c0, World.block_lt_of_cell? wc _ e1⟩)
    go_region_held3 (fun w' => (w'.cell? ⟨g, 0, none⟩ = some (.string ⟨#[111, 112, 101, 110]⟩) ∧ w'.cell? ⟨w.heap.size, 1, none⟩ = some (.string ⟨lot.toArray⟩) ∧ w'.cell? ⟨w.heap.size, 2, none⟩ = some (.int .i64 n)) ∧ Below w.heap.size w w')
      (first | exact KK | exact ⟨⟨c0, e1, e2⟩, HB.out⟩ | exact ⟨⟨c0, e1, e2⟩, HB.out.drew⟩)
      (first
        | (go_at_call 30; (with_reducible refine (HI.out _ ?_).mono ?_); (first | exact HG.out.later HB.out | exact HG.out.later HB.out.drew); rintro e w4 ⟨rfl, hb4⟩;
            have KK : (w4.cell? ⟨g, 0, none⟩ = some (.string ⟨#[111, 112, 101, 110]⟩) ∧ w4.cell? ⟨w.heap.size, 1, none⟩ = some (.string ⟨lot.toArray⟩) ∧ w4.cell? ⟨w.heap.size, 2, none⟩ = some (.int .i64 n)) ∧ Below w.heap.size w w4 :=
              ⟨⟨(hb4.cell (p := ⟨g, 0, none⟩) HX.out.1).trans c0, (hb4.cell (p := ⟨w.heap.size, 1, none⟩) HX.out.2).trans e1, (hb4.cell (p := ⟨w.heap.size, 2, none⟩) HX.out.2).trans e2⟩, HB.out.trans ⟨hb4.os, hb4.tape, hb4.output, hb4.size, fun k hk => hb4.block k (Nat.lt_of_lt_of_le hk HB.out.size)⟩⟩)
        | fail)
    all_goals
      have KB := Lib.hid KK.2
      clear KK
      go_wp2
      go_ret2
      exact ⟨rfl, KB.out⟩
set_option maxRecDepth 100000 in
set_option maxHeartbeats 2000000 in
theorem text_1 (lot : Txt) (n : Int) (w : World) (hg : Good w) (hl : lot.length ≤ 140737488355328) (hr : Rg.rightE ⟨1, lot, n⟩ = 0) :
    Calls Tryz.prog 27 #[entV ⟨1, lot, n⟩] w (Ret w (ans2 (Rg.writ ⟨1, lot, n⟩, 0))) := by
  have HR := Lib.hid (fun W => right_g ⟨1, lot, n⟩ W hl)
  have HW := Lib.hid (fun W => rows_c W)
  have HG := Lib.hid hg
  rw [hr] at HR
  have hnn := (Rg.rightE_iff _).1 hr
  simp only at hnn
  have HI := Lib.hid (fun W hW => Itoa_c n W hW (by omega) (by omega))
  have hwl := Rg.writ_len hr
  rw [show Rg.writ ⟨1, lot, n⟩ = [112, 97, 115, 115] ++ 32 :: (lot ++ 32 :: Lib.itoa n) from rfl] at hwl ⊢
  simp only [List.length_append, List.length_cons, List.length_nil] at hwl
  obtain ⟨U1, q1⟩ : ∃ U1 : Txt, [112, 97, 115, 115, 32] ++ lot = U1 := ⟨_, rfl⟩
  obtain ⟨U2, q2⟩ : ∃ U2 : Txt, U1 ++ [32] = U2 := ⟨_, rfl⟩
  obtain ⟨U3, q3⟩ : ∃ U3 : Txt, U2 ++ Lib.itoa n = U3 := ⟨_, rfl⟩
  have l1 : U1.length ≤ 100 := by rw [← q1, List.length_append, List.length_cons]; simp only [List.length_cons, List.length_nil]; omega
  have l2 : U2.length ≤ 101 := by rw [← q2, List.length_append, List.length_cons]; simp only [List.length_nil]; omega
  have g1 : ∀ W, (Op.stringOp .add ⟨#[112, 97, 115, 115, 32]⟩ ⟨lot.toArray⟩).run Tryz.prog W = .ok (.string ⟨U1.toArray⟩) W := fun W => by rw [← q1]; exact cat_run [112, 97, 115, 115, 32] lot (by simp only [List.length_cons, List.length_nil]; omega) W
  have g2 : ∀ W, (Op.stringOp .add ⟨U1.toArray⟩ ⟨#[32]⟩).run Tryz.prog W = .ok (.string ⟨U2.toArray⟩) W := fun W => by rw [← q2]; exact cat_run U1 [32] (by simp only [List.length_cons, List.length_nil]; omega) W
  have g3 : ∀ W, (Op.stringOp .add ⟨U2.toArray⟩ ⟨(Lib.itoa n).toArray⟩).run Tryz.prog W = .ok (.string ⟨U3.toArray⟩) W := fun W => by rw [← q3]; exact cat_run U2 _ (by omega) W
  rw [show [112, 97, 115, 115] ++ 32 :: (lot ++ 32 :: Lib.itoa n) = U3 by rw [← q3, ← q2, ← q1]; simp]
  generalize Lib.itoa n = tn at *
  clear q1 q2 q3 l1 l2 hwl
  have J := BX.new w #[.int .i64 1, .string ⟨lot.toArray⟩, .int .i64 n] 28
  have hix : ∀ W, (Instr.index 100 rowsV (.int .i64 1)).run Tryz.prog W = .ok (.agg #[.string ⟨#[112, 97, 115, 115]⟩, .bool false, .func (.func 72) #[] #[]]) W := fun W => by
    simp [Instr.index, run_underlying Tryz.underlying100, asIntOf, part, Tryz.isAgg99, Tryz.sizeOf99]
  clear hr hg
  go_enter Tryz.func27, Tryz.ntmps27
  go_wp2_with fail
  ((with_reducible refine (HR.out _).mono ?_); rintro e w1 ⟨rfl, hb1⟩)
  have J1 := J.later hb1
  obtain ⟨d0, d1, d2⟩ := cell3 J1.c
  have HJ1 := Lib.hid J1
  clear J J1 hb1
  go_upto_region 4 with fail
  have HLT : w.heap.size < w1.heap.size := (Array.getElem?_eq_some_iff.1 HJ1.out.c).1
  have a0 : ∀ o, (w1.alloc o).cell? ⟨w.heap.size, 0, none⟩ = some (.int .i64 1) := fun o => (World.cell?_alloc_lt w1 o ⟨w.heap.size, 0, none⟩ HLT).trans d0
  go_cut [5] (fun s5 wx => ∃ g, s5 = .pointer (some ⟨g, 0, none⟩) ∧ wx.cell? ⟨g, 0, none⟩ = some (.string ⟨#[112, 97, 115, 115]⟩) ∧ wx.cell? ⟨g, 1, none⟩ = some (.bool false) ∧ (wx.cell? ⟨w.heap.size, 1, none⟩ = some (.string ⟨lot.toArray⟩) ∧ wx.cell? ⟨w.heap.size, 2, none⟩ = some (.int .i64 n)) ∧ Hid (Below w.heap.size w wx))
  case first =>
    go_region_with (first
      | (go_at_call 46; (with_reducible refine (HW.out _).mono ?_); rintro e w2 ⟨rfl, hb2⟩;
          (first
            | (have hb2' : Below w1.heap.size w1 w2 := ⟨hb2.os, hb2.tape, hb2.output, hb2.size, hb2.block⟩; obtain ⟨s0, s1, s2⟩ := cell3 (HJ1.out.later hb2').c; have hlt2 : w.heap.size < w2.heap.size := Nat.lt_of_lt_of_le HLT hb2'.size; have hbw := Lib.hid (HJ1.out.later hb2').w)
            | (have hb2' : Below w1.heap.size w1 w2 := ((Below.refl _ _).alloc (Nat.le_refl _) (.cells #[.string ⟨#[]⟩, .bool false, .nilFunc] 99)).trans ⟨hb2.os, hb2.tape, hb2.output, hb2.size, fun k hk => hb2.block k (Nat.lt_trans hk (alloc_lt w1 _))⟩;
               obtain ⟨s0, s1, s2⟩ := cell3 (HJ1.out.later hb2').c; have hlt2 : w.heap.size < w2.heap.size := Nat.lt_of_lt_of_le HLT hb2'.size; have hbw := Lib.hid (HJ1.out.later hb2').w; have hzz := (hb2.block _ (alloc_lt w1 _)).trans (heap_alloc_new w1 (.cells #[.string ⟨#[]⟩, .bool false, .nilFunc] 99));
               obtain ⟨z0, z1, z2⟩ := cell3 hzz; have f0 : ∀ j, w2.frozen? ⟨w1.heap.size, j, none⟩ = false := (fun j => by simp [World.frozen?, hzz]))))
      | fail)
    all_goals (go_wp2_with fail; go_meet)
    all_goals
      first
        | exact ⟨_, rfl, (cell3 (heap_alloc_new w2 _)).1, (cell3 (heap_alloc_new w2 _)).2.1, ⟨(World.cell?_alloc_lt w2 _ ⟨w.heap.size, 1, none⟩ hlt2).trans s1, (World.cell?_alloc_lt w2 _ ⟨w.heap.size, 2, none⟩ hlt2).trans s2⟩, hbw.out.alloc hbw.out.size _⟩
        | (obtain ⟨t0, t1, t2⟩ := set3 (v0 := .string ⟨#[112, 97, 115, 115]⟩) (v1 := .bool false) (v2 := .func (.func 72) #[] #[]) z0 z1
           exact ⟨_, rfl, t0, t1, ⟨(t2 ⟨w.heap.size, 1, none⟩ (Nat.ne_of_lt HLT)).trans s1, (t2 ⟨w.heap.size, 2, none⟩ (Nat.ne_of_lt HLT)).trans s2⟩, Below.cellP (Below.cellP (Below.cellP hbw.out HJ1.out.w.size _) HJ1.out.w.size _) HJ1.out.w.size _⟩)
  case rest =>
    obtain ⟨g, rfl, c0, c1, ⟨e1, e2⟩, HB⟩ := hcut
    go_wp2_with fail
    have HX := Lib.hid (show g < wc.heap.size ∧ w.heap.size < wc.heap.size from ⟨World.block_lt_of_cell? wc _ c0, World.block_lt_of_cell? wc _ e1⟩)
    go_region_held3 (fun w' => (w'.cell? ⟨g, 0, none⟩ = some (.string ⟨#[112, 97, 115, 115]⟩) ∧ w'.cell? ⟨w.heap.size, 1, none⟩ = some (.string ⟨lot.toArray⟩) ∧ w'.cell? ⟨w.heap.size, 2, none⟩ = some (.int .i64 n)) ∧ Below w.heap.size w w')
      (first | exact KK | exact ⟨⟨c0, e1, e2⟩, HB.out⟩ | exact ⟨⟨c0, e1, e2⟩, HB.out.drew⟩)
      (first
        | (go_at_call 30; (with_reducible refine (HI.out _ ?_).mono ?_); (first | exact HG.out.later HB.out | exact HG.out.later HB.out.drew); rintro e w4 ⟨rfl, hb4⟩;
            have KK : (w4.cell? ⟨g, 0, none⟩ = some (.string ⟨#[112, 97, 115, 115]⟩) ∧ w4.cell? ⟨w.heap.size, 1, none⟩ = some (.string ⟨lot.toArray⟩) ∧ w4.cell? ⟨w.heap.size, 2, none⟩ = some (.int .i64 n)) ∧ Below w.heap.size w w4 :=
              ⟨⟨(hb4.cell (p := ⟨g, 0, none⟩) HX.out.1).trans c0, (hb4.cell (p := ⟨w.heap.size, 1, none⟩) HX.out.2).trans e1, (hb4.cell (p := ⟨w.heap.size, 2, none⟩) HX.out.2).trans e2⟩, HB.out.trans ⟨hb4.os, hb4.tape, hb4.output, hb4.size, fun k hk => hb4.block k (Nat.lt_of_lt_of_le hk HB.out.size)⟩⟩)
        | fail)
    all_goals
      have KB := Lib.hid KK.2
      clear KK
      go_wp2
      go_ret2
      exact ⟨rfl, KB.out⟩
set_option maxRecDepth 100000 in
set_option maxHeartbeats 2000000 in
theorem text_2 (lot : Txt) (n : Int) (w : World) (hg : Good w) (hl : lot.length ≤ 140737488355328) (hr : Rg.rightE ⟨2, lot, n⟩ = 0) :
    Calls Tryz.prog 27 #[entV ⟨2, lot, n⟩] w (Ret w (ans2 (Rg.writ ⟨2, lot, n⟩, 0))) := by
  have HR := Lib.hid (fun W => right_g ⟨2, lot, n⟩ W hl)
  have HW := Lib.hid (fun W => rows_c W)
  have HG := Lib.hid hg
  rw [hr] at HR
  have hnn := (Rg.rightE_iff _).1 hr
  simp only at hnn
  have HI := Lib.hid (fun W hW => Itoa_c n W hW (by omega) (by omega))
  have hwl := Rg.writ_len hr
  rw [show Rg.writ ⟨2, lot, n⟩ = [114, 101, 106, 101, 99, 116] ++ 32 :: (lot ++ 32 :: Lib.itoa n) from rfl] at hwl ⊢
  simp only [List.length_append, List.length_cons, List.length_nil] at hwl
  obtain ⟨U1, q1⟩ : ∃ U1 : Txt, [114, 101, 106, 101, 99, 116, 32] ++ lot = U1 := ⟨_, rfl⟩
  obtain ⟨U2, q2⟩ : ∃ U2 : Txt, U1 ++ [32] = U2 := ⟨_, rfl⟩
  obtain ⟨U3, q3⟩ : ∃ U3 : Txt, U2 ++ Lib.itoa n = U3 := ⟨_, rfl⟩
  have l1 : U1.length ≤ 100 := by rw [← q1, List.length_append, List.length_cons]; simp only [List.length_cons, List.length_nil]; omega
  have l2 : U2.length ≤ 101 := by rw [← q2, List.length_append, List.length_cons]; simp only [List.length_nil]; omega
  have g1 : ∀ W, (Op.stringOp .add ⟨#[114, 101, 106, 101, 99, 116, 32]⟩ ⟨lot.toArray⟩).run Tryz.prog W = .ok (.string ⟨U1.toArray⟩) W := fun W => by rw [← q1]; exact cat_run [114, 101, 106, 101, 99, 116, 32] lot (by simp only [List.length_cons, List.length_nil]; omega) W
  have g2 : ∀ W, (Op.stringOp .add ⟨U1.toArray⟩ ⟨#[32]⟩).run Tryz.prog W = .ok (.string ⟨U2.toArray⟩) W := fun W => by rw [← q2]; exact cat_run U1 [32] (by simp only [List.length_cons, List.length_nil]; omega) W
  have g3 : ∀ W, (Op.stringOp .add ⟨U2.toArray⟩ ⟨(Lib.itoa n).toArray⟩).run Tryz.prog W = .ok (.string ⟨U3.toArray⟩) W := fun W => by rw [← q3]; exact cat_run U2 _ (by omega) W
  rw [show [114, 101, 106, 101, 99, 116] ++ 32 :: (lot ++ 32 :: Lib.itoa n) = U3 by rw [← q3, ← q2, ← q1]; simp]
  generalize Lib.itoa n = tn at *
  clear q1 q2 q3 l1 l2 hwl
  have J := BX.new w #[.int .i64 2, .string ⟨lot.toArray⟩, .int .i64 n] 28
  have hix : ∀ W, (Instr.index 100 rowsV (.int .i64 2)).run Tryz.prog W = .ok (.agg #[.string ⟨#[114, 101, 106, 101, 99, 116]⟩, .bool false, .func (.func 74) #[] #[]]) W := fun W => by
    simp [Instr.index, run_underlying Tryz.underlying100, asIntOf, part, Tryz.isAgg99, Tryz.sizeOf99]
  clear hr hg
  go_enter Tryz.func27, Tryz.ntmps27
  go_wp2_with fail
  ((with_reducible refine (HR.out _).mono ?_); rintro e w1 ⟨rfl, hb1⟩)
  have J1 := J.later hb1
  obtain ⟨d0, d1, d2⟩ := cell3 J1.c
  have HJ1 := Lib.hid J1
  clear J J1 hb1
  go_upto_region 4 with fail
  have HLT : w.heap.size < w1.heap.size := (Array.getElem?_eq_some_iff.1 HJ1.out.c).1
  have a0 : ∀ o, (w1.alloc o).cell? ⟨w.heap.size, 0, none⟩ = some (.int .i64 2) := fun o => (World.cell?_alloc_lt w1 o ⟨w.heap.size, 0, none⟩ HLT).trans d0
  go_cut [5] (fun s5 wx => ∃ g, s5 = .pointer (some ⟨g, 0, none⟩) ∧ wx.cell? ⟨g, 0, none⟩ = some (.string ⟨#[114, 101, 106, 101, 99, 116]⟩) ∧ wx.cell? ⟨g, 1, none⟩ = some (.bool false) ∧ (wx.cell? ⟨w.heap.size, 1, none⟩ = some (.string ⟨lot.toArray⟩) ∧ wx.cell? ⟨w.heap.size, 2, none⟩ = some (.int .i64 n)) ∧ Hid (Below w.heap.size w wx))
  case first =>
    go_region_with (first
      | (go_at_call 46; (with_reducible refine (HW.out _).mono ?_); rintro e w2 ⟨rfl, hb2⟩;
          (first
            | (have hb2' : Below w1.heap.size w1 w2 := ⟨hb2.os, hb2.tape, hb2.output, hb2.size, hb2.block⟩; obtain ⟨s0, s1, s2⟩ := cell3 (HJ1.out.later hb2').c; have hlt2 : w.heap.size < w2.heap.size := Nat.lt_of_lt_of_le HLT hb2'.size; have hbw := Lib.hid (HJ1.out.later hb2').w)
            | (have hb2' : Below w1.heap.size w1 w2 := ((Below.refl _ _).alloc (Nat.le_refl _) (.cells #[.string ⟨#[]⟩, .bool false, .nilFunc] 99)).trans ⟨hb2.os, hb2.tape, hb2.output, hb2.size, fun k hk => hb2.block k (Nat.lt_trans hk (alloc_lt w1 _))⟩;
               obtain ⟨s0, s1, s2⟩ := cell3 (HJ1.out.later hb2').c; have hlt2 : w.heap.size < w2.heap.size := Nat.lt_of_lt_of_le HLT hb2'.size; have hbw := Lib.hid (HJ1.out.later hb2').w; have hzz := (hb2.block _ (alloc_lt w1 _)).trans (heap_alloc_new w1 (.cells #[.string ⟨#[]⟩, .bool false, .nilFunc] 99));
               obtain ⟨z0, z1, z2⟩ := cell3 hzz; have f0 : ∀ j, w2.frozen? ⟨w1.heap.size, j, none⟩ = false := (fun j => by simp [World.frozen?, hzz]))))
      | fail)
    all_goals (go_wp2_with fail; go_meet)
    all_goals
      first
        | exact ⟨_, rfl, (cell3 (heap_alloc_new w2 _)).1, (cell3 (heap_alloc_new w2 _)).2.1, ⟨(World.cell?_alloc_lt w2 _ ⟨w.heap.size, 1, none⟩ hlt2).trans s1, (World.cell?_alloc_lt w2 _ ⟨w.heap.size, 2, none⟩ hlt2).trans s2⟩, hbw.out.alloc hbw.out.size _⟩
        | (obtain ⟨t0, t1, t2⟩ := set3 (v0 := .string ⟨#[114, 101, 106, 101, 99, 116]⟩) (v1 := .bool false) (v2 := .func (.func 74) #[] #[]) z0 z1
           exact ⟨_, rfl, t0, t1, ⟨(t2 ⟨w.heap.size, 1, none⟩ (Nat.ne_of_lt HLT)).trans s1, (t2 ⟨w.heap.size, 2, none⟩ (Nat.ne_of_lt HLT)).trans s2⟩, Below.cellP (Below.cellP (Below.cellP hbw.out HJ1.out.w.size _) HJ1.out.w.size _) HJ1.out.w.size _⟩)
  case rest =>
    obtain ⟨g, rfl, c0, c1, ⟨e1, e2⟩, HB⟩ := hcut
    go_wp2_with fail
    have HX := Lib.hid (show g < wc.heap.size ∧ w.heap.size < wc.heap.size from ⟨World.block_lt_of_cell? wc _ c0, World.block_lt_of_cell? wc _ e1⟩)
    go_region_held3 (fun w' => (w'.cell? ⟨g, 0, none⟩ = some (.string ⟨#[114, 101, 106, 101, 99, 116]⟩) ∧ w'.cell? ⟨w.heap.size, 1, none⟩ = some (.string ⟨lot.toArray⟩) ∧ w'.cell? ⟨w.heap.size, 2, none⟩ = some (.int .i64 n)) ∧ Below w.heap.size w w')
      (first | exact KK | exact ⟨⟨c0, e1, e2⟩, HB.out⟩ | exact ⟨⟨c0, e1, e2⟩, HB.out.drew⟩)
      (first
        | (go_at_call 30; (with_reducible refine (HI.out _ ?_).mono ?_); (first | exact HG.out.later HB.out | exact HG.out.later HB.out.drew); rintro e w4 ⟨rfl, hb4⟩;
            have KK : (w4.cell? ⟨g, 0, none⟩ = some (.string ⟨#[114, 101, 106, 101, 99, 116]⟩) ∧ w4.cell? ⟨w.heap.size, 1, none⟩ = some (.string ⟨lot.toArray⟩) ∧ w4.cell? ⟨w.heap.size, 2, none⟩ = some (.int .i64 n)) ∧ Below w.heap.size w w4 :=
              ⟨⟨(hb4.cell (p := ⟨g, 0, none⟩) HX.out.1).trans c0, (hb4.cell (p := ⟨w.heap.size, 1, none⟩) HX.out.2).trans e1, (hb4.cell (p := ⟨w.heap.size, 2, none⟩) HX.out.2).trans e2⟩, HB.out.trans ⟨hb4.os, hb4.tape, hb4.output, hb4.size, fun k hk => hb4.block k (Nat.lt_of_lt_of_le hk HB.out.size)⟩⟩)
        | fail)
    all_goals
      have KB := Lib.hid KK.2
      clear KK
      go_wp2
      go_ret2
      exact ⟨rfl, KB.out⟩
set_option maxRecDepth 100000 in
set_option maxHeartbeats 2000000 in
theorem text_5 (lot : Txt) (n : Int) (w : World) (hg : Good w) (hl : lot.length ≤ 140737488355328) (hr : Rg.rightE ⟨5, lot, n⟩ = 0) :
    Calls Tryz.prog 27 #[entV ⟨5, lot, n⟩] w (Ret w (ans2 (Rg.writ ⟨5, lot, n⟩, 0))) := by
  have HR := Lib.hid (fun W => right_g ⟨5, lot, n⟩ W hl)
  have HW := Lib.hid (fun W => rows_c W)
  have HG := Lib.hid hg
  rw [hr] at HR
  have J := BX.new w #[.int .i64 5, .string ⟨lot.toArray⟩, .int .i64 n] 28
  have hix : ∀ W, (Instr.index 100 rowsV (.int .i64 5)).run Tryz.prog W = .ok (.agg #[.string ⟨#[99, 108, 111, 115, 101]⟩, .bool true, .func (.func 78) #[] #[]]) W := fun W => by
    simp [Instr.index, run_underlying Tryz.underlying100, asIntOf, part, Tryz.isAgg99, Tryz.sizeOf99]
  clear hr hg
  go_enter Tryz.func27, Tryz.ntmps27
  go_wp2_with fail
  ((with_reducible refine (HR.out _).mono ?_); rintro e w1 ⟨rfl, hb1⟩)
  have J1 := J.later hb1
  obtain ⟨d0, d1, d2⟩ := cell3 J1.c
  have HJ1 := Lib.hid J1
  clear J J1 hb1
  go_upto_region 4 with fail
  have HLT : w.heap.size < w1.heap.size := (Array.getElem?_eq_some_iff.1 HJ1.out.c).1
  have a0 : ∀ o, (w1.alloc o).cell? ⟨w.heap.size, 0, none⟩ = some (.int .i64 5) := fun o => (World.cell?_alloc_lt w1 o ⟨w.heap.size, 0, none⟩ HLT).trans d0
  go_cut [5] (fun s5 wx => ∃ g, s5 = .pointer (some ⟨g, 0, none⟩) ∧ wx.cell? ⟨g, 0, none⟩ = some (.string ⟨#[99, 108, 111, 115, 101]⟩) ∧ wx.cell? ⟨g, 1, none⟩ = some (.bool true) ∧ (wx.cell? ⟨w.heap.size, 1, none⟩ = some (.string ⟨lot.toArray⟩) ∧ wx.cell? ⟨w.heap.size, 2, none⟩ = some (.int .i64 n)) ∧ Hid (Below w.heap.size w wx))
  case first =>
    go_region_with (first
      | (go_at_call 46; (with_reducible refine (HW.out _).mono ?_); rintro e w2 ⟨rfl, hb2⟩;
          (first
            | (have hb2' : Below w1.heap.size w1 w2 := ⟨hb2.os, hb2.tape, hb2.output, hb2.size, hb2.block⟩; obtain ⟨s0, s1, s2⟩ := cell3 (HJ1.out.later hb2').c; have hlt2 : w.heap.size < w2.heap.size := Nat.lt_of_lt_of_le HLT hb2'.size; have hbw := Lib.hid (HJ1.out.later hb2').w)
            | (have hb2' : Below w1.heap.size w1 w2 := ((Below.refl _ _).alloc (Nat.le_refl _) (.cells #[.string ⟨#[]⟩, .bool false, .nilFunc] 99)).trans ⟨hb2.os, hb2.tape, hb2.output, hb2.size, fun k hk => hb2.block k (Nat.lt_trans hk (alloc_lt w1 _))⟩;
               obtain ⟨s0, s1, s2⟩ := cell3 (HJ1.out.later hb2').c; have hlt2 : w.heap.size < w2.heap.size := Nat.lt_of_lt_of_le HLT hb2'.size; have hbw := Lib.hid (HJ1.out.later hb2').w; have hzz := (hb2.block _ (alloc_lt w1 _)).trans (heap_alloc_new w1 (.cells #[.string ⟨#[]⟩, .bool false, .nilFunc] 99));
               obtain ⟨z0, z1, z2⟩ := cell3 hzz; have f0 : ∀ j, w2.frozen? ⟨w1.heap.size, j, none⟩ = false := (fun j => by simp [World.frozen?, hzz]))))
      | fail)
    all_goals (go_wp2_with fail; go_meet)
    all_goals
      first
        | exact ⟨_, rfl, (cell3 (heap_alloc_new w2 _)).1, (cell3 (heap_alloc_new w2 _)).2.1, ⟨(World.cell?_alloc_lt w2 _ ⟨w.heap.size, 1, none⟩ hlt2).trans s1, (World.cell?_alloc_lt w2 _ ⟨w.heap.size, 2, none⟩ hlt2).trans s2⟩, hbw.out.alloc hbw.out.size _⟩
        | (obtain ⟨t0, t1, t2⟩ := set3 (v0 := .string ⟨#[99, 108, 111, 115, 101]⟩) (v1 := .bool true) (v2 := .func (.func 78) #[] #[]) z0 z1
           exact ⟨_, rfl, t0, t1, ⟨(t2 ⟨w.heap.size, 1, none⟩ (Nat.ne_of_lt HLT)).trans s1, (t2 ⟨w.heap.size, 2, none⟩ (Nat.ne_of_lt HLT)).trans s2⟩, Below.cellP (Below.cellP (Below.cellP hbw.out HJ1.out.w.size _) HJ1.out.w.size _) HJ1.out.w.size _⟩)
  case rest =>
    obtain ⟨g, rfl, c0, c1, ⟨e1, e2⟩, HB⟩ := hcut
    go_wp2
    go_ret2
    exact ⟨by rfl, HB.out⟩
end Go.Proofs.Wk
/- REGISTERS OF LOTS: Text, further kinds. -/
namespace Go.Proofs.Wk
open Go.RowKit Mt

set_option maxRecDepth 100000 in
set_option maxHeartbeats 2000000 in
theorem text_3 (lot : Txt) (n : Int) (w : World) (hg : Good w) (hl : lot.length ≤ 140737488355328) (hr : Rg.rightE ⟨3, lot, n⟩ = 0) :
    Calls Tryz.prog 27 #[entV ⟨3, lot, n⟩] w (Ret w (ans2 (Rg.writ ⟨3, lot, n⟩, 0))) := by
  have HR := Lib.hid (fun W => right_g ⟨3, lot, n⟩ W hl)
  have HW := Lib.hid (fun W => rows_c W)
  have HG := Lib.hid hg
  rw [hr] at HR
  have hnn := (Rg.rightE_iff _).1 hr
  simp only at hnn
  have HI := Lib.hid (fun W hW => Itoa_c n W hW (by omega) (by omega))
  have hwl := Rg.writ_len hr
  rw [show Rg.writ ⟨3, lot, n⟩ = [99, 111, 110, 99, 101, 100, 101] ++ 32 :: (lot ++ 32 :: Lib.itoa n) from rfl] at hwl ⊢
  simp only [List.length_append, List.length_cons, List.length_nil] at hwl
  obtain ⟨U1, q1⟩ : ∃ U1 : Txt, [99, 111, 110, 99, 101, 100, 101, 32] ++ lot = U1 := ⟨_, rfl⟩
  obtain ⟨U2, q2⟩ : ∃ U2 : Txt, U1 ++ [32] = U2 := ⟨_, rfl⟩
  obtain ⟨U3, q3⟩ : ∃ U3 : Txt, U2 ++ Lib.itoa n = U3 := ⟨_, rfl⟩
  have l1 : U1.length ≤ 100 := by rw [← q1, List.length_append, List.length_cons]; simp only [List.length_cons, List.length_nil]; omega
  have l2 : U2.length ≤ 101 := by rw [← q2, List.length_append, List.length_cons]; simp only [List.length_nil]; omega
  have g1 : ∀ W, (Op.stringOp .add ⟨#[99, 111, 110, 99, 101, 100, 101, 32]⟩ ⟨lot.toArray⟩).run Tryz.prog W = .ok (.string ⟨U1.toArray⟩) W := fun W => by rw [← q1]; exact cat_run [99, 111, 110, 99, 101, 100, 101, 32] lot (by simp only [List.length_cons, List.length_nil]; omega) W
  have g2 : ∀ W, (Op.stringOp .add ⟨U1.toArray⟩ ⟨#[32]⟩).run Tryz.prog W = .ok (.string ⟨U2.toArray⟩) W := fun W => by rw [← q2]; exact cat_run U1 [32] (by simp only [List.length_cons, List.length_nil]; omega) W
  have g3 : ∀ W, (Op.stringOp .add ⟨U2.toArray⟩ ⟨(Lib.itoa n).toArray⟩).run Tryz.prog W = .ok (.string ⟨U3.toArray⟩) W := fun W => by rw [← q3]; exact cat_run U2 _ (by omega) W
  rw [show [99, 111, 110, 99, 101, 100, 101] ++ 32 :: (lot ++ 32 :: Lib.itoa n) = U3 by rw [← q3, ← q2, ← q1]; simp]
  generalize Lib.itoa n = tn at *
  clear q1 q2 q3 l1 l2 hwl
  have J := BX.new w #[.int .i64 3, .string ⟨lot.toArray⟩, .int .i64 n] 28
  have hix : ∀ W, (Instr.index 100 rowsV (.int .i64 3)).run Tryz.prog W = .ok (.agg #[.string ⟨#[99, 111, 110, 99, 101, 100, 101]⟩, .bool false, .func (.func 75) #[] #[]]) W := fun W => by
    simp [Instr.index, run_underlying Tryz.underlying100, asIntOf, part, Tryz.isAgg99, Tryz.sizeOf99]
  clear hr hg
  go_enter Tryz.func27, Tryz.ntmps27
  go_wp2_with fail
  ((with_reducible refine (HR.out _).mono ?_); rintro e w1 ⟨rfl, hb1⟩)
  have J1 := J.later hb1
  obtain ⟨d0, d1, d2⟩ := cell3 J1.c
  have HJ1 := Lib.hid J1
  clear J J1 hb1
  go_upto_region 4 with fail
  have HLT : w.heap.size < w1.heap.size := (Array.getElem?_eq_some_iff.1 HJ1.out.c).1
  have a0 : ∀ o, (w1.alloc o).cell? ⟨w.heap.size, 0, none⟩ = some (.int .i64 3) := fun o => (World.cell?_alloc_lt w1 o ⟨w.heap.size, 0, none⟩ HLT).trans d0
  go_cut [5] (fun s5 wx => ∃ g, s5 = .pointer (some ⟨g, 0, none⟩) ∧ wx.cell? ⟨g, 0, none⟩ = some (.string ⟨#[99, 111, 110, 99, 101, 100, 101]⟩) ∧ wx.cell? ⟨g, 1, none⟩ = some (.bool false) ∧ (wx.cell? ⟨w.heap.size, 1, none⟩ = some (.string ⟨lot.toArray⟩) ∧ wx.cell? ⟨w.heap.size, 2, none⟩ = some (.int .i64 n)) ∧ Hid (Below w.heap.size w wx))
  case first =>
    go_region_with (first
      | (go_at_call 46; (with_reducible refine (HW.out _).mono ?_); rintro e w2 ⟨rfl, hb2⟩;
          (first
            | (have hb2' : Below w1.heap.size w1 w2 := ⟨hb2.os, hb2.tape, hb2.output, hb2.size, hb2.block⟩; obtain ⟨s0, s1, s2⟩ := cell3 (HJ1.out.later hb2').c; have hlt2 : w.heap.size < w2.heap.size := Nat.lt_of_lt_of_le HLT hb2'.size; have hbw := Lib.hid (HJ1.out.later hb2').w)
            | (have hb2' : Below w1.heap.size w1 w2 := ((Below.refl _ _).alloc (Nat.le_refl _) (.cells #[.string ⟨#[]⟩, .bool false, .nilFunc] 99)).trans ⟨hb2.os, hb2.tape, hb2.output, hb2.size, fun k hk => hb2.block k (Nat.lt_trans hk (alloc_lt w1 _))⟩;
               obtain ⟨s0, s1, s2⟩ := cell3 (HJ1.out.later hb2').c; have hlt2 : w.heap.size < w2.heap.size := Nat.lt_of_lt_of_le HLT hb2'.size; have hbw := Lib.hid (HJ1.out.later hb2').w; have hzz := (hb2.block _ (alloc_lt w1 _)).trans (heap_alloc_new w1 (.cells #[.string ⟨#[]⟩, .bool false, .nilFunc] 99));
               obtain ⟨z0, z1, z2⟩ := cell3 hzz; have f0 : ∀ j, w2.frozen? ⟨w1.heap.size, j, none⟩ = false := (fun j => by simp [World.frozen?, hzz]))))
      | fail)
    all_goals (go_wp2_with fail; go_meet)
    all_goals
      first
        | exact ⟨_, rfl, (cell3 (heap_alloc_new w2 _)).1, (cell3 (heap_alloc_new w2 _)).2.1, ⟨(World.cell?_alloc_lt w2 _ ⟨w.heap.size, 1, none⟩ hlt2).trans s1, (World.cell?_alloc_lt w2 _ ⟨w.heap.size, 2, none⟩ hlt2).trans s2⟩, hbw.out.alloc hbw.out.size _⟩
        | (obtain ⟨t0, t1, t2⟩ := set3 (v0 := .string ⟨#[99, 111, 110, 99, 101, 100, 101]⟩) (v1 := .bool false) (v2 := .func (.func 75) #[] #[]) z0 z1
           exact ⟨_, rfl, t0, t1, ⟨(t2 ⟨w.heap.size, 1, none⟩ (Nat.ne_of_lt HLT)).trans s1, (t2 ⟨w.heap.size, 2, none⟩ (Nat.ne_of_lt HLT)).trans s2⟩, Below.cellP (Below.cellP (Below.cellP hbw.out HJ1.out.w.size _) HJ1.out.w.size _) HJ1.out.w.size _⟩)
  case rest =>
    obtain ⟨g, rfl, c0, c1, ⟨e1, e2⟩, HB⟩ := hcut
    go_wp2_with fail
    have HX := Lib.hid (show g < wc.heap.size ∧ w.heap.size < wc.heap.size from ⟨World.block_lt_of_cell? wc _ c0, World.block_lt_of_cell? wc _ e1⟩)
    go_region_held3 (fun w' => (w'.cell? ⟨g, 0, none⟩ = some (.string ⟨#[99, 111, 110, 99, 101, 100, 101]⟩) ∧ w'.cell? ⟨w.heap.size, 1, none⟩ = some (.string ⟨lot.toArray⟩) ∧ w'.cell? ⟨w.heap.size, 2, none⟩ = some (.int .i64 n)) ∧ Below w.heap.size w w')
      (first | exact KK | exact ⟨⟨c0, e1, e2⟩, HB.out⟩ | exact ⟨⟨c0, e1, e2⟩, HB.out.drew⟩)
      (first
        | (go_at_call 30; (with_reducible refine (HI.out _ ?_).mono ?_); (first | exact HG.out.later HB.out | exact HG.out.later HB.out.drew); rintro e w4 ⟨rfl, hb4⟩;
            have KK : (w4.cell? ⟨g, 0, none⟩ = some (.string ⟨#[99, 111, 110, 99, 101, 100, 101]⟩) ∧ w4.cell? ⟨w.heap.size, 1, none⟩ = some (.string ⟨lot.toArray⟩) ∧ w4.cell? ⟨w.heap.size, 2, none⟩ = some (.int .i64 n)) ∧ Below w.heap.size w w4 :=
              ⟨⟨(hb4.cell (p := ⟨g, 0, none⟩) HX.out.1).trans c0, (hb4.cell (p := ⟨w.heap.size, 1, none⟩) HX.out.2).trans e1, (hb4.cell (p := ⟨w.heap.size, 2, none⟩) HX.out.2).trans e2⟩, HB.out.trans ⟨hb4.os, hb4.tape, hb4.output, hb4.size, fun k hk => hb4.block k (Nat.lt_of_lt_of_le hk HB.out.size)⟩⟩)
        | fail)
    all_goals
      have KB := Lib.hid KK.2
      clear KK
      go_wp2
      go_ret2
      exact ⟨rfl, KB.out⟩
set_option maxRecDepth 100000 in
set_option maxHeartbeats 2000000 in
theorem text_4 (lot : Txt) (n : Int) (w : World) (hg : Good w) (hl : lot.length ≤ 140737488355328) (hr : Rg.rightE ⟨4, lot, n⟩ = 0) :
    Calls Tryz.prog 27 #[entV ⟨4, lot, n⟩] w (Ret w (ans2 (Rg.writ ⟨4, lot, n⟩, 0))) := by
  have HR := Lib.hid (fun W => right_g ⟨4, lot, n⟩ W hl)
  have HW := Lib.hid (fun W => rows_c W)
  have HG := Lib.hid hg
  rw [hr] at HR
  have hnn := (Rg.rightE_iff _).1 hr
  simp only at hnn
  have HI := Lib.hid (fun W hW => Itoa_c n W hW (by omega) (by omega))
  have hwl := Rg.writ_len hr
  rw [show Rg.writ ⟨4, lot, n⟩ = [115, 99, 114, 97, 112] ++ 32 :: (lot ++ 32 :: Lib.itoa n) from rfl] at hwl ⊢
  simp only [List.length_append, List.length_cons, List.length_nil] at hwl
  obtain ⟨U1, q1⟩ : ∃ U1 : Txt, [115, 99, 114, 97, 112, 32] ++ lot = U1 := ⟨_, rfl⟩
  obtain ⟨U2, q2⟩ : ∃ U2 : Txt, U1 ++ [32] = U2 := ⟨_, rfl⟩
  obtain ⟨U3, q3⟩ : ∃ U3 : Txt, U2 ++ Lib.itoa n = U3 := ⟨_, rfl⟩
  have l1 : U1.length ≤ 100 := by rw [← q1, List.length_append, List.length_cons]; simp only [List.length_cons, List.length_nil]; omega
  have l2 : U2.length ≤ 101 := by rw [← q2, List.length_append, List.length_cons]; simp only [List.length_nil]; omega
  have g1 : ∀ W, (Op.stringOp .add ⟨#[115, 99, 114, 97, 112, 32]⟩ ⟨lot.toArray⟩).run Tryz.prog W = .ok (.string ⟨U1.toArray⟩) W := fun W => by rw [← q1]; exact cat_run [115, 99, 114, 97, 112, 32] lot (by simp only [List.length_cons, List.length_nil]; omega) W
  have g2 : ∀ W, (Op.stringOp .add ⟨U1.toArray⟩ ⟨#[32]⟩).run Tryz.prog W = .ok (.string ⟨U2.toArray⟩) W := fun W => by rw [← q2]; exact cat_run U1 [32] (by simp only [List.length_cons, List.length_nil]; omega) W
  have g3 : ∀ W, (Op.stringOp .add ⟨U2.toArray⟩ ⟨(Lib.itoa n).toArray⟩).run Tryz.prog W = .ok (.string ⟨U3.toArray⟩) W := fun W => by rw [← q3]; exact cat_run U2 _ (by omega) W
  rw [show [115, 99, 114, 97, 112] ++ 32 :: (lot ++ 32 :: Lib.itoa n) = U3 by rw [← q3, ← q2, ← q1]; simp]
  generalize Lib.itoa n = tn at *
  clear q1 q2 q3 l1 l2 hwl
  have J := BX.new w #[.int .i64 4, .string ⟨lot.toArray⟩, .int .i64 n] 28
  have hix : ∀ W, (Instr.index 100 rowsV (.int .i64 4)).run Tryz.prog W = .ok (.agg #[.string ⟨#[115, 99, 114, 97, 112]⟩, .bool false, .func (.func 77) #[] #[]]) W := fun W => by
    simp [Instr.index, run_underlying Tryz.underlying100, asIntOf, part, Tryz.isAgg99, Tryz.sizeOf99]
  clear hr hg
  go_enter Tryz.func27, Tryz.ntmps27
  go_wp2_with fail
  ((with_reducible refine (HR.out _).mono ?_); rintro e w1 ⟨rfl, hb1⟩)
  have J1 := J.later hb1
  obtain ⟨d0, d1, d2⟩ := cell3 J1.c
  have HJ1 := Lib.hid J1
  clear J J1 hb1
  go_upto_region 4 with fail
  have HLT : w.heap.size < w1.heap.size := (Array.getElem?_eq_some_iff.1 HJ1.out.c).1
  have a0 : ∀ o, (w1.alloc o).cell? ⟨w.heap.size, 0, none⟩ = some (.int .i64 4) := fun o => (World.cell?_alloc_lt w1 o ⟨w.heap.size, 0, none⟩ HLT).trans d0
  go_cut [5] (fun s5 wx => ∃ g, s5 = .pointer (some ⟨g, 0, none⟩) ∧ wx.cell? ⟨g, 0, none⟩ = some (.string ⟨#[115, 99, 114, 97, 112]⟩) ∧ wx.cell? ⟨g, 1, none⟩ = some (.bool false) ∧ (wx.cell? ⟨w.heap.size, 1, none⟩ = some (.string ⟨lot.toArray⟩) ∧ wx.cell? ⟨w.heap.size, 2, none⟩ = some (.int .i64 n)) ∧ Hid (Below w.heap.size w wx))
  case first =>
    go_region_with (first
      | (go_at_call 46; (with_reducible refine (HW.out _).mono ?_); rintro e w2 ⟨rfl, hb2⟩;
          (first
            | (have hb2' : Below w1.heap.size w1 w2 := ⟨hb2.os, hb2.tape, hb2.output, hb2.size, hb2.block⟩; obtain ⟨s0, s1, s2⟩ := cell3 (HJ1.out.later hb2').c; have hlt2 : w.heap.size < w2.heap.size := Nat.lt_of_lt_of_le HLT hb2'.size; have hbw := Lib.hid (HJ1.out.later hb2').w)
            | (have hb2' : Below w1.heap.size w1 w2 := ((Below.refl _ _).alloc (Nat.le_refl _) (.cells #[.string ⟨#[]⟩, .bool false, .nilFunc] 99)).trans ⟨hb2.os, hb2.tape, hb2.output, hb2.size, fun k hk => hb2.block k (Nat.lt_trans hk (alloc_lt w1 _))⟩;
               obtain ⟨s0, s1, s2⟩ := cell3 (HJ1.out.later hb2').c; have hlt2 : w.heap.size < w2.heap.size := Nat.lt_of_lt_of_le HLT hb2'.size; have hbw := Lib.hid (HJ1.out.later hb2').w; have hzz := (hb2.block _ (alloc_lt w1 _)).trans (heap_alloc_new w1 (.cells #[.string ⟨#[]⟩, .bool false, .nilFunc] 99));
               obtain ⟨z0, z1, z2⟩ := cell3 hzz; have f0 : ∀ j, w2.frozen? ⟨w1.heap.size, j, none⟩ = false := (fun j => by simp [World.frozen?, hzz]))))
      | fail)
    all_goals (go_wp2_with fail; go_meet)
    all_goals
      first
        | exact ⟨_, rfl, (cell3 (heap_alloc_new w2 _)).1, (cell3 (heap_alloc_new w2 _)).2.1, ⟨(World.cell?_alloc_lt w2 _ ⟨w.heap.size, 1, none⟩ hlt2).trans s1, (World.cell?_alloc_lt w2 _ ⟨w.heap.size, 2, none⟩ hlt2).trans s2⟩, hbw.out.alloc hbw.out.size _⟩
        | (obtain ⟨t0, t1, t2⟩ := set3 (v0 := .string ⟨#[115, 99, 114, 97, 112]⟩) (v1 := .bool false) (v2 := .func (.func 77) #[] #[]) z0 z1
           exact ⟨_, rfl, t0, t1, ⟨(t2 ⟨w.heap.size, 1, none⟩ (Nat.ne_of_lt HLT)).trans s1, (t2 ⟨w.heap.size, 2, none⟩ (Nat.ne_of_lt HLT)).trans s2⟩, Below.cellP (Below.cellP (Below.cellP hbw.out HJ1.out.w.size _) HJ1.out.w.size _) HJ1.out.w.size _⟩)
  case rest =>
    obtain ⟨g, rfl, c0, c1, ⟨e1, e2⟩, HB⟩ := hcut
    go_wp2_with fail
    have HX := Lib.hid (show g < wc.heap.size ∧ w.heap.size < wc.heap.size from ⟨World.block_lt_of_cell? wc _ c0, World.block_lt_of_cell? wc _ e1⟩)
    go_region_held3 (fun w' => (w'.cell? ⟨g, 0, none⟩ = some (.string ⟨#[115, 99, 114, 97, 112]⟩) ∧ w'.cell? ⟨w.heap.size, 1, none⟩ = some (.string ⟨lot.toArray⟩) ∧ w'.cell? ⟨w.heap.size, 2, none⟩ = some (.int .i64 n)) ∧ Below w.heap.size w w')
      (first | exact KK | exact ⟨⟨c0, e1, e2⟩, HB.out⟩ | exact ⟨⟨c0, e1, e2⟩, HB.out.drew⟩)
      (first
        | (go_at_call 30; (with_reducible refine (HI.out _ ?_).mono ?_); (first | exact HG.out.later HB.out | exact HG.out.later HB.out.drew); rintro e w4 ⟨rfl, hb4⟩;
            have KK : (w4.cell? ⟨g, 0, none⟩ = some (.string ⟨#[115, 99, 114, 97, 112]⟩) ∧ w4.cell? ⟨w.heap.size, 1, none⟩ = some (.string ⟨lot.toArray⟩) ∧ w4.cell? ⟨w.heap.size, 2, none⟩ = some (.int .i64 n)) ∧ Below w.heap.size w w4 :=
              ⟨⟨(hb4.cell (p := ⟨g, 0, none⟩) HX.out.1).trans c0, (hb4.cell (p := ⟨w.heap.size, 1, none⟩) HX.out.2).trans e1, (hb4.cell (p := ⟨w.heap.size, 2, none⟩) HX.out.2).trans e2⟩, HB.out.trans ⟨hb4.os, hb4.tape, hb4.output, hb4.size, fun k hk => hb4.block k (Nat.lt_of_lt_of_le hk HB.out.size)⟩⟩)
        | fail)
    all_goals
      have KB := Lib.hid KK.2
      clear KK
      go_wp2
      go_ret2
      exact ⟨rfl, KB.out⟩
set_option maxRecDepth 100000 in
set_option maxHeartbeats 2000000 in
theorem text_6 (lot : Txt) (n : Int) (w : World) (hg : Good w) (hl : lot.length ≤ 140737488355328) (hr : Rg.rightE ⟨6, lot, n⟩ = 0) :
    Calls Tryz.prog 27 #[entV ⟨6, lot, n⟩] w (Ret w (ans2 (Rg.writ ⟨6, lot, n⟩, 0))) := by
  have HR := Lib.hid (fun W => right_g ⟨6, lot, n⟩ W hl)
  have HW := Lib.hid (fun W => rows_c W)
  have HG := Lib.hid hg
  rw [hr] at HR
  have J := BX.new w #[.int .i64 6, .string ⟨lot.toArray⟩, .int .i64 n] 28
  have hix : ∀ W, (Instr.index 100 rowsV (.int .i64 6)).run Tryz.prog W = .ok (.agg #[.string ⟨#[115, 104, 105, 112]⟩, .bool true, .func (.func 81) #[] #[]]) W := fun W => by
    simp [Instr.index, run_underlying Tryz.underlying100, asIntOf, part, Tryz.isAgg99, Tryz.sizeOf99]
  clear hr hg
  go_enter Tryz.func27, Tryz.ntmps27
  go_wp2_with fail
  ((with_reducible refine (HR.out _).mono ?_); rintro e w1 ⟨rfl, hb1⟩)
  have J1 := J.later hb1
  obtain ⟨d0, d1, d2⟩ := cell3 J1.c
  have HJ1 := Lib.hid J1
  clear J J1 hb1
  go_upto_region 4 with fail
  have HLT : w.heap.size < w1.heap.size := (Array.getElem?_eq_some_iff.1 HJ1.out.c).1
  have a0 : ∀ o, (w1.alloc o).cell? ⟨w.heap.size, 0, none⟩ = some (.int .i64 6) := fun o => (World.cell?_alloc_lt w1 o ⟨w.heap.size, 0, none⟩ HLT).trans d0
  go_cut [5] (fun s5 wx => ∃ g, s5 = .pointer (some ⟨g, 0, none⟩) ∧ wx.cell? ⟨g, 0, none⟩ = some (.string ⟨#[115, 104, 105, 112]⟩) ∧ wx.cell? ⟨g, 1, none⟩ = some (.bool true) ∧ (wx.cell? ⟨w.heap.size, 1, none⟩ = some (.string ⟨lot.toArray⟩) ∧ wx.cell? ⟨w.heap.size, 2, none⟩ = some (.int .i64 n)) ∧ Hid (Below w.heap.size w wx))
  case first =>
    go_region_with (first
      | (go_at_call 46; (with_reducible refine (HW.out _).mono ?_); rintro e w2 ⟨rfl, hb2⟩;
          (first
            | (have hb2' : Below w1.heap.size w1 w2 := ⟨hb2.os, hb2.tape, hb2.output, hb2.size, hb2.block⟩; obtain ⟨s0, s1, s2⟩ := cell3 (HJ1.out.later hb2').c; have hlt2 : w.heap.size < w2.heap.size := Nat.lt_of_lt_of_le HLT hb2'.size; have hbw := Lib.hid (HJ1.out.later hb2').w)
            | (have hb2' : Below w1.heap.size w1 w2 := ((Below.refl _ _).alloc (Nat.le_refl _) (.cells #[.string ⟨#[]⟩, .bool false, .nilFunc] 99)).trans ⟨hb2.os, hb2.tape, hb2.output, hb2.size, fun k hk => hb2.block k (Nat.lt_trans hk (alloc_lt w1 _))⟩;
               obtain ⟨s0, s1, s2⟩ := cell3 (HJ1.out.later hb2').c; have hlt2 : w.heap.size < w2.heap.size := Nat.lt_of_lt_of_le HLT hb2'.size; have hbw := Lib.hid (HJ1.out.later hb2').w; have hzz := (hb2.block _ (alloc_lt w1 _)).trans (heap_alloc_new w1 (.cells #[.string ⟨#[]⟩, .bool false, .nilFunc] 99));
               obtain ⟨z0, z1, z2⟩ := cell3 hzz; have f0 : ∀ j, w2.frozen? ⟨w1.heap.size, j, none⟩ = false := (fun j => by simp [World.frozen?, hzz]))))
      | fail)
    all_goals (go_wp2_with fail; go_meet)
    all_goals
      first
        | exact ⟨_, rfl, (cell3 (heap_alloc_new w2 _)).1, (cell3 (heap_alloc_new w2 _)).2.1, ⟨(World.cell?_alloc_lt w2 _ ⟨w.heap.size, 1, none⟩ hlt2).trans s1, (World.cell?_alloc_lt w2 _ ⟨w.heap.size, 2, none⟩ hlt2).trans s2⟩, hbw.out.alloc hbw.out.size _⟩
        | (obtain ⟨t0, t1, t2⟩ := set3 (v0 := .string ⟨#[115, 104, 105, 112]⟩) (v1 := .bool true) (v2 := .func (.func 81) #[] #[]) z0 z1
           exact ⟨_, rfl, t0, t1, ⟨(t2 ⟨w.heap.size, 1, none⟩ (Nat.ne_of_lt HLT)).trans s1, (t2 ⟨w.heap.size, 2, none⟩ (Nat.ne_of_lt HLT)).trans s2⟩, Below.cellP (Below.cellP (Below.cellP hbw.out HJ1.out.w.size _) HJ1.out.w.size _) HJ1.out.w.size _⟩)
  case rest =>
    obtain ⟨g, rfl, c0, c1, ⟨e1, e2⟩, HB⟩ := hcut
    go_wp2
    go_ret2
    exact ⟨by rfl, HB.out⟩
set_option maxRecDepth 100000 in
theorem Text_c (x : Rg.En) (w : World) (hg : Good w) (hl : x.lot.length ≤ 140737488355328) : Calls Tryz.prog 27 #[entV x] w (Ret w (ans2 (Rg.textL x))) := by
  by_cases hr : Rg.rightE x = 0
  · rw [show Rg.textL x = (Rg.writ x, 0) by unfold Rg.textL; rw [if_neg (Decidable.not_not.2 hr)]]
    obtain ⟨⟨h0, h6⟩, -⟩ := (Rg.rightE_iff x).1 hr
    obtain ⟨k, lot, n⟩ := x
    simp only at h0 h6 hl
    have : k = 0 ∨ k = 1 ∨ k = 2 ∨ k = 3 ∨ k = 4 ∨ k = 5 ∨ k = 6 := by omega
    rcases this with rfl | rfl | rfl | rfl | rfl | rfl | rfl
    · exact text_0 lot n w hg hl hr
    · exact text_1 lot n w hg hl hr
    · exact text_2 lot n w hg hl hr
    · exact text_3 lot n w hg hl hr
    · exact text_4 lot n w hg hl hr
    · exact text_5 lot n w hg hl hr
    · exact text_6 lot n w hg hl hr
  · rw [show Rg.textL x = ([], Rg.rightE x) by unfold Rg.textL; rw [if_pos hr]]
    have HR := Lib.hid (fun W => right_g x W hl)
    have J := BX.new w #[.int .i64 x.k, .string ⟨x.lot.toArray⟩, .int .i64 x.n] 28
    generalize Rg.rightE x = c at *
    obtain ⟨k, lot, n⟩ := x
    simp only at J
    have y1 : (c != 0) = true := bne_iff_ne.2 hr
    clear hr hg
    go_enter Tryz.func27, Tryz.ntmps27
    go_wp2_with fail
    ((with_reducible refine (HR.out _).mono ?_); rintro e w1 ⟨rfl, hb1⟩)
    have J1 := J.later hb1
    go_wp2
    go_ret2
    exact ⟨rfl, J1.w⟩
end Go.Proofs.Wk
