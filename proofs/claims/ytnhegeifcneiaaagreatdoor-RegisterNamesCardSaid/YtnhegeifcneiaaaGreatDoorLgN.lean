/- THE LAW RegisterNames: the walk. -/
import Derived.Test.YtnhegeifcneiaaaGreatDoorLgT
namespace Go.Proofs.Wk
open Go.RowKit Mt

set_option maxRecDepth 100000 in
set_option maxHeartbeats 2000000 in
theorem names_long (x : Rg.En) (a b : Txt) (w : World) (hg : GoodS w) (hx : x.lot.length ≤ 140737488355328) (ha : a.length ≤ 140737488355328) (hb : b.length ≤ 140737488355328)
    (h : 60 < x.lot.length ∨ (¬ 60 < x.lot.length ∧ 300 < a.length) ∨ (¬ 60 < x.lot.length ∧ ¬ 300 < a.length ∧ 300 < b.length)) :
    Calls Tryz.prog 4 #[entV x, .string ⟨a.toArray⟩, .string ⟨b.toArray⟩] w (Ret w (.bool true)) := by
  have HA := Lib.hid (fun W (hW : GoodS W) => awake_c W hW.g)
  have J := BX.new w #[.int .i64 x.k, .string ⟨x.lot.toArray⟩, .int .i64 x.n] 23
  obtain ⟨k, lot, n⟩ := x
  simp only at J hx h
  obtain ⟨d0, d1, d2⟩ := cell3 J.c
  have HJ := Lib.hid J
  have HG1 := Lib.hid (hg.later J.w)
  clear J hg
  rcases h with h1 | ⟨h1, h2⟩ | ⟨h1, h2, h3⟩
  · have i1 : (60 : Int) < (lot.length : Int) := by omega
    clear h1
    go_enter Tryz.func4, Tryz.ntmps4
    go_wp2_with fail
    ((with_reducible refine (HA.out _ HG1.out).mono ?_); rintro e w1 ⟨rfl, hb1⟩)
    have J1 := HJ.out.later hb1
    go_wp2
    go_ret
    exact ⟨rfl, J1.w⟩
  · have i1 : ¬ (60 : Int) < (lot.length : Int) := by omega
    have i2 : (300 : Int) < (a.length : Int) := by omega
    clear h1 h2
    go_enter Tryz.func4, Tryz.ntmps4
    go_wp2_with fail
    ((with_reducible refine (HA.out _ HG1.out).mono ?_); rintro e w1 ⟨rfl, hb1⟩)
    have J1 := HJ.out.later hb1
    go_wp2
    go_ret
    exact ⟨rfl, J1.w⟩
  · have i1 : ¬ (60 : Int) < (lot.length : Int) := by omega
    have i2 : ¬ (300 : Int) < (a.length : Int) := by omega
    have i3 : (300 : Int) < (b.length : Int) := by omega
    clear h1 h2 h3
    go_enter Tryz.func4, Tryz.ntmps4
    go_wp2_with fail
    ((with_reducible refine (HA.out _ HG1.out).mono ?_); rintro e w1 ⟨rfl, hb1⟩)
    have J1 := HJ.out.later hb1
    go_wp2
    go_ret
    exact ⟨rfl, J1.w⟩
set_option maxRecDepth 100000 in
set_option maxHeartbeats 4000000 in
theorem names_good (x : Rg.En) (a b : Txt) (w : World) (hg : GoodS w) (h6 : x.lot.length ≤ 60) (ha : a.length ≤ 300) (hb : b.length ≤ 300) (hr : Rg.rightE x = 0) :
    Calls Tryz.prog 4 #[entV x, .string ⟨a.toArray⟩, .string ⟨b.toArray⟩] w (Ret w (.bool true)) := by
  have hx : x.lot.length ≤ 140737488355328 := by omega
  have hrb := Rg.read_back Rg.reads_numA hr
  have hwl := Rg.writ_len hr
  have HR := Lib.hid (fun W hW => Read_c (Rg.writ x) W hW (by omega))
  rw [hrb] at HR
  have ht : Rg.textL x = (Rg.writ x, 0) := by unfold Rg.textL; rw [if_neg (Decidable.not_not.2 hr)]
  have HA := Lib.hid (fun W (hW : GoodS W) => awake_c W hW.g)
  have HT := Lib.hid (fun W (hW : GoodS W) => Text_c x W hW.g hx)
  have J := BX.new w #[.int .i64 x.k, .string ⟨x.lot.toArray⟩, .int .i64 x.n] 23
  have hsum := Rg.sumL_app 1 a b
  have HS1 := Lib.hid (fun W => Sum_c 1 (a ++ b) W (by rw [List.length_append]; omega))
  have HS2 := Lib.hid (fun W => Sum_c 1 a W (by omega))
  have HS3 := Lib.hid (fun W => Sum_c (Rg.sumL 1 a) b W (by omega))
  rw [hsum] at HS1
  have g1 : ∀ W, (Op.stringOp .add ⟨a.toArray⟩ ⟨b.toArray⟩).run Tryz.prog W = .ok (.string ⟨(a ++ b).toArray⟩) W := fun W => cat_run a b (by omega) W
  clear hsum
  generalize Rg.sumL (Rg.sumL 1 a) b = M at *
  generalize Rg.sumL 1 a = M1 at *
  generalize a ++ b = ab at *
  rw [ht] at HT
  clear ht hrb hr hwl
  generalize Rg.writ x = U at *
  obtain ⟨k, lot, n⟩ := x
  simp only at J hx h6
  obtain ⟨d0, d1, d2⟩ := cell3 J.c
  have HJ := Lib.hid J
  have HG := Lib.hid hg
  have i1 : ¬ (60 : Int) < (lot.length : Int) := by omega
  have i2 : ¬ (300 : Int) < (a.length : Int) := by omega
  have i3 : ¬ (300 : Int) < (b.length : Int) := by omega
  clear J hg ha hb
  go_enter Tryz.func4, Tryz.ntmps4
  go_wp2_with fail
  ((with_reducible refine (HS1.out _).mono ?_); rintro e w1 ⟨rfl, hb1⟩)
  have HJ1 := Lib.hid (HJ.out.later hb1)
  clear hb1 HS1 HJ d0 d1 d2
  go_wp2_with fail
  ((with_reducible refine (HS2.out _).mono ?_); rintro e w2 ⟨rfl, hb2⟩)
  have HJ2 := Lib.hid (HJ1.out.later hb2)
  clear hb2 HS2 HJ1
  go_wp2_with fail
  ((with_reducible refine (HS3.out _).mono ?_); rintro e w3 ⟨rfl, hb3⟩)
  have J3 := HJ2.out.later hb3
  obtain ⟨d0, d1, d2⟩ := cell3 J3.c
  have HJ3 := Lib.hid J3
  have HG3 := Lib.hid (HG.out.later J3.w)
  clear hb3 HS3 HJ2 J3 g1
  go_wp2_with fail
  ((with_reducible refine (HT.out _ HG3.out).mono ?_); rintro e w4 ⟨rfl, hb4⟩)
  have J4 := HJ3.out.later hb4
  obtain ⟨f0, f1, f2⟩ := cell3 J4.c
  have HJ4 := Lib.hid J4
  have HG4 := Lib.hid (HG.out.later J4.w)
  clear hb4 HT HG3 HJ3 J4 d0 d1 d2
  go_wp2_with fail
  ((with_reducible refine (HR.out _ HG4.out).mono ?_); rintro e w5 ⟨rfl, hb5⟩)
  have J5 := HJ4.out.later hb5
  have hb : Below w5.heap.size w5 (w5.alloc (.cells #[.int .i64 k, .string ⟨lot.toArray⟩, .int .i64 n] 23)) := (Below.refl _ _).alloc (Nat.le_refl _) _
  have J6 := J5.later hb
  obtain ⟨d0, d1, d2⟩ := cell3 J6.c
  have HJ6 := Lib.hid J6
  have HG6 := Lib.hid (HG.out.later J6.w)
  clear J5 J6 hb hb5 HR HG4 HJ4 f0 f1 f2
  go_wp2_with fail
  ((with_reducible refine (HA.out _ HG6.out).mono ?_); rintro e w7 ⟨rfl, hb7⟩)
  have J7 := HJ6.out.later hb7
  go_wp2
  go_ret
  exact ⟨rfl, J7.w⟩
set_option maxRecDepth 100000 in
set_option maxHeartbeats 4000000 in
theorem names_bA (x : Rg.En) (a b : Txt) (w : World) (hg : GoodS w) (h6 : x.lot.length ≤ 60) (ha : a.length ≤ 300) (hb : b.length ≤ 300) (hr : Rg.rightE x ≠ 0) (q0 : Rg.nameE x.lot ≠ 0) :
    Calls Tryz.prog 4 #[entV x, .string ⟨a.toArray⟩, .string ⟨b.toArray⟩] w (Ret w (.bool true)) := by
  have hx : x.lot.length ≤ 140737488355328 := by omega
  have HN := Lib.hid (fun W => rname_c x.lot W hx)
  have ht : Rg.textL x = ([], Rg.rightE x) := by unfold Rg.textL; rw [if_pos hr]
  have HA := Lib.hid (fun W (hW : GoodS W) => awake_c W hW.g)
  have HT := Lib.hid (fun W (hW : GoodS W) => Text_c x W hW.g hx)
  have J := BX.new w #[.int .i64 x.k, .string ⟨x.lot.toArray⟩, .int .i64 x.n] 23
  have hsum := Rg.sumL_app 1 a b
  have HS1 := Lib.hid (fun W => Sum_c 1 (a ++ b) W (by rw [List.length_append]; omega))
  have HS2 := Lib.hid (fun W => Sum_c 1 a W (by omega))
  have HS3 := Lib.hid (fun W => Sum_c (Rg.sumL 1 a) b W (by omega))
  rw [hsum] at HS1
  have g1 : ∀ W, (Op.stringOp .add ⟨a.toArray⟩ ⟨b.toArray⟩).run Tryz.prog W = .ok (.string ⟨(a ++ b).toArray⟩) W := fun W => cat_run a b (by omega) W
  clear hsum
  generalize Rg.sumL (Rg.sumL 1 a) b = M at *
  generalize Rg.sumL 1 a = M1 at *
  generalize a ++ b = ab at *
  rw [ht] at HT
  have y0 : (Rg.rightE x != 0) = true := bne_iff_ne.2 hr
  clear ht hr
  have y9 : (Rg.nameE x.lot != 0) = true := bne_iff_ne.2 q0
  generalize Rg.nameE x.lot = cn at *
  clear q0
  generalize Rg.rightE x = c at *
  obtain ⟨k, lot, n⟩ := x
  simp only at J hx h6 
  obtain ⟨d0, d1, d2⟩ := cell3 J.c
  have HJ := Lib.hid J
  have HG := Lib.hid hg
  have i1 : ¬ (60 : Int) < (lot.length : Int) := by omega
  have i2 : ¬ (300 : Int) < (a.length : Int) := by omega
  have i3 : ¬ (300 : Int) < (b.length : Int) := by omega
  clear J hg ha hb
  go_enter Tryz.func4, Tryz.ntmps4
  go_wp2_with fail
  ((with_reducible refine (HS1.out _).mono ?_); rintro e w1 ⟨rfl, hb1⟩)
  have HJ1 := Lib.hid (HJ.out.later hb1)
  clear hb1 HS1 HJ d0 d1 d2
  go_wp2_with fail
  ((with_reducible refine (HS2.out _).mono ?_); rintro e w2 ⟨rfl, hb2⟩)
  have HJ2 := Lib.hid (HJ1.out.later hb2)
  clear hb2 HS2 HJ1
  go_wp2_with fail
  ((with_reducible refine (HS3.out _).mono ?_); rintro e w3 ⟨rfl, hb3⟩)
  have J3 := HJ2.out.later hb3
  obtain ⟨d0, d1, d2⟩ := cell3 J3.c
  have HJ3 := Lib.hid J3
  have HG3 := Lib.hid (HG.out.later J3.w)
  clear hb3 HS3 HJ2 J3 g1
  go_wp2_with fail
  ((with_reducible refine (HT.out _ HG3.out).mono ?_); rintro e w4 ⟨rfl, hb4⟩)
  have J4 := HJ3.out.later hb4
  obtain ⟨f0, f1, f2⟩ := cell3 J4.c
  have HJ4 := Lib.hid J4
  have HG4 := Lib.hid (HG.out.later J4.w)
  clear hb4 HT HG3 HJ3 J4 d0 d1 d2
  go_wp2_with fail
  ((with_reducible refine (HN.out _).mono ?_); rintro e w5 ⟨rfl, rfl⟩)
  clear HN
  go_wp2_with fail
  ((with_reducible refine (HA.out _ HG4.out).mono ?_); rintro e w7 ⟨rfl, hb7⟩)
  have J7 := HJ4.out.later hb7
  go_wp2
  go_ret
  first | exact ⟨rfl, J7.w⟩ | exact ⟨ret_bool (by simp; omega), J7.w⟩
set_option maxRecDepth 100000 in
set_option maxHeartbeats 4000000 in
theorem names_bB (x : Rg.En) (a b : Txt) (w : World) (hg : GoodS w) (h6 : x.lot.length ≤ 60) (ha : a.length ≤ 300) (hb : b.length ≤ 300) (hr : Rg.rightE x ≠ 0) (q0 : Rg.nameE x.lot = 0) (q1 : x.k < 0) :
    Calls Tryz.prog 4 #[entV x, .string ⟨a.toArray⟩, .string ⟨b.toArray⟩] w (Ret w (.bool true)) := by
  have hx : x.lot.length ≤ 140737488355328 := by omega
  have HN := Lib.hid (fun W => rname_c x.lot W hx)
  have ht : Rg.textL x = ([], Rg.rightE x) := by unfold Rg.textL; rw [if_pos hr]
  have HA := Lib.hid (fun W (hW : GoodS W) => awake_c W hW.g)
  have HT := Lib.hid (fun W (hW : GoodS W) => Text_c x W hW.g hx)
  have J := BX.new w #[.int .i64 x.k, .string ⟨x.lot.toArray⟩, .int .i64 x.n] 23
  have hsum := Rg.sumL_app 1 a b
  have HS1 := Lib.hid (fun W => Sum_c 1 (a ++ b) W (by rw [List.length_append]; omega))
  have HS2 := Lib.hid (fun W => Sum_c 1 a W (by omega))
  have HS3 := Lib.hid (fun W => Sum_c (Rg.sumL 1 a) b W (by omega))
  rw [hsum] at HS1
  have g1 : ∀ W, (Op.stringOp .add ⟨a.toArray⟩ ⟨b.toArray⟩).run Tryz.prog W = .ok (.string ⟨(a ++ b).toArray⟩) W := fun W => cat_run a b (by omega) W
  clear hsum
  generalize Rg.sumL (Rg.sumL 1 a) b = M at *
  generalize Rg.sumL 1 a = M1 at *
  generalize a ++ b = ab at *
  rw [ht] at HT
  have y0 : (Rg.rightE x != 0) = true := bne_iff_ne.2 hr
  clear ht hr
  rw [q0] at HN
  clear q0
  generalize Rg.rightE x = c at *
  obtain ⟨k, lot, n⟩ := x
  simp only at J hx h6 q1
  obtain ⟨d0, d1, d2⟩ := cell3 J.c
  have HJ := Lib.hid J
  have HG := Lib.hid hg
  have i1 : ¬ (60 : Int) < (lot.length : Int) := by omega
  have i2 : ¬ (300 : Int) < (a.length : Int) := by omega
  have i3 : ¬ (300 : Int) < (b.length : Int) := by omega
  clear J hg ha hb
  go_enter Tryz.func4, Tryz.ntmps4
  go_wp2_with fail
  ((with_reducible refine (HS1.out _).mono ?_); rintro e w1 ⟨rfl, hb1⟩)
  have HJ1 := Lib.hid (HJ.out.later hb1)
  clear hb1 HS1 HJ d0 d1 d2
  go_wp2_with fail
  ((with_reducible refine (HS2.out _).mono ?_); rintro e w2 ⟨rfl, hb2⟩)
  have HJ2 := Lib.hid (HJ1.out.later hb2)
  clear hb2 HS2 HJ1
  go_wp2_with fail
  ((with_reducible refine (HS3.out _).mono ?_); rintro e w3 ⟨rfl, hb3⟩)
  have J3 := HJ2.out.later hb3
  obtain ⟨d0, d1, d2⟩ := cell3 J3.c
  have HJ3 := Lib.hid J3
  have HG3 := Lib.hid (HG.out.later J3.w)
  clear hb3 HS3 HJ2 J3 g1
  go_wp2_with fail
  ((with_reducible refine (HT.out _ HG3.out).mono ?_); rintro e w4 ⟨rfl, hb4⟩)
  have J4 := HJ3.out.later hb4
  obtain ⟨f0, f1, f2⟩ := cell3 J4.c
  have HJ4 := Lib.hid J4
  have HG4 := Lib.hid (HG.out.later J4.w)
  clear hb4 HT HG3 HJ3 J4 d0 d1 d2
  go_wp2_with fail
  ((with_reducible refine (HN.out _).mono ?_); rintro e w5 ⟨rfl, rfl⟩)
  clear HN
  go_wp2_with fail
  ((with_reducible refine (HA.out _ HG4.out).mono ?_); rintro e w7 ⟨rfl, hb7⟩)
  have J7 := HJ4.out.later hb7
  go_wp2
  go_ret
  first | exact ⟨rfl, J7.w⟩ | exact ⟨ret_bool (by simp; omega), J7.w⟩
set_option maxRecDepth 100000 in
set_option maxHeartbeats 4000000 in
theorem names_bC (x : Rg.En) (a b : Txt) (w : World) (hg : GoodS w) (h6 : x.lot.length ≤ 60) (ha : a.length ≤ 300) (hb : b.length ≤ 300) (hr : Rg.rightE x ≠ 0) (q0 : Rg.nameE x.lot = 0) (q1 : ¬ x.k < 0) (q2 : 6 < x.k) :
    Calls Tryz.prog 4 #[entV x, .string ⟨a.toArray⟩, .string ⟨b.toArray⟩] w (Ret w (.bool true)) := by
  have hx : x.lot.length ≤ 140737488355328 := by omega
  have HN := Lib.hid (fun W => rname_c x.lot W hx)
  have ht : Rg.textL x = ([], Rg.rightE x) := by unfold Rg.textL; rw [if_pos hr]
  have HA := Lib.hid (fun W (hW : GoodS W) => awake_c W hW.g)
  have HT := Lib.hid (fun W (hW : GoodS W) => Text_c x W hW.g hx)
  have J := BX.new w #[.int .i64 x.k, .string ⟨x.lot.toArray⟩, .int .i64 x.n] 23
  have hsum := Rg.sumL_app 1 a b
  have HS1 := Lib.hid (fun W => Sum_c 1 (a ++ b) W (by rw [List.length_append]; omega))
  have HS2 := Lib.hid (fun W => Sum_c 1 a W (by omega))
  have HS3 := Lib.hid (fun W => Sum_c (Rg.sumL 1 a) b W (by omega))
  rw [hsum] at HS1
  have g1 : ∀ W, (Op.stringOp .add ⟨a.toArray⟩ ⟨b.toArray⟩).run Tryz.prog W = .ok (.string ⟨(a ++ b).toArray⟩) W := fun W => cat_run a b (by omega) W
  clear hsum
  generalize Rg.sumL (Rg.sumL 1 a) b = M at *
  generalize Rg.sumL 1 a = M1 at *
  generalize a ++ b = ab at *
  rw [ht] at HT
  have y0 : (Rg.rightE x != 0) = true := bne_iff_ne.2 hr
  clear ht hr
  rw [q0] at HN
  clear q0
  generalize Rg.rightE x = c at *
  obtain ⟨k, lot, n⟩ := x
  simp only at J hx h6 q1 q2
  obtain ⟨d0, d1, d2⟩ := cell3 J.c
  have HJ := Lib.hid J
  have HG := Lib.hid hg
  have i1 : ¬ (60 : Int) < (lot.length : Int) := by omega
  have i2 : ¬ (300 : Int) < (a.length : Int) := by omega
  have i3 : ¬ (300 : Int) < (b.length : Int) := by omega
  clear J hg ha hb
  go_enter Tryz.func4, Tryz.ntmps4
  go_wp2_with fail
  ((with_reducible refine (HS1.out _).mono ?_); rintro e w1 ⟨rfl, hb1⟩)
  have HJ1 := Lib.hid (HJ.out.later hb1)
  clear hb1 HS1 HJ d0 d1 d2
  go_wp2_with fail
  ((with_reducible refine (HS2.out _).mono ?_); rintro e w2 ⟨rfl, hb2⟩)
  have HJ2 := Lib.hid (HJ1.out.later hb2)
  clear hb2 HS2 HJ1
  go_wp2_with fail
  ((with_reducible refine (HS3.out _).mono ?_); rintro e w3 ⟨rfl, hb3⟩)
  have J3 := HJ2.out.later hb3
  obtain ⟨d0, d1, d2⟩ := cell3 J3.c
  have HJ3 := Lib.hid J3
  have HG3 := Lib.hid (HG.out.later J3.w)
  clear hb3 HS3 HJ2 J3 g1
  go_wp2_with fail
  ((with_reducible refine (HT.out _ HG3.out).mono ?_); rintro e w4 ⟨rfl, hb4⟩)
  have J4 := HJ3.out.later hb4
  obtain ⟨f0, f1, f2⟩ := cell3 J4.c
  have HJ4 := Lib.hid J4
  have HG4 := Lib.hid (HG.out.later J4.w)
  clear hb4 HT HG3 HJ3 J4 d0 d1 d2
  go_wp2_with fail
  ((with_reducible refine (HN.out _).mono ?_); rintro e w5 ⟨rfl, rfl⟩)
  clear HN
  go_wp2_with fail
  ((with_reducible refine (HA.out _ HG4.out).mono ?_); rintro e w7 ⟨rfl, hb7⟩)
  have J7 := HJ4.out.later hb7
  go_wp2
  go_ret
  first | exact ⟨rfl, J7.w⟩ | exact ⟨ret_bool (by simp; omega), J7.w⟩
set_option maxRecDepth 100000 in
set_option maxHeartbeats 4000000 in
theorem names_bD (x : Rg.En) (a b : Txt) (w : World) (hg : GoodS w) (h6 : x.lot.length ≤ 60) (ha : a.length ≤ 300) (hb : b.length ≤ 300) (hr : Rg.rightE x ≠ 0) (q0 : Rg.nameE x.lot = 0) (q1 : ¬ x.k < 0) (q2 : ¬ 6 < x.k) (q3 : x.n < 0) :
    Calls Tryz.prog 4 #[entV x, .string ⟨a.toArray⟩, .string ⟨b.toArray⟩] w (Ret w (.bool true)) := by
  have hx : x.lot.length ≤ 140737488355328 := by omega
  have HN := Lib.hid (fun W => rname_c x.lot W hx)
  have ht : Rg.textL x = ([], Rg.rightE x) := by unfold Rg.textL; rw [if_pos hr]
  have HA := Lib.hid (fun W (hW : GoodS W) => awake_c W hW.g)
  have HT := Lib.hid (fun W (hW : GoodS W) => Text_c x W hW.g hx)
  have J := BX.new w #[.int .i64 x.k, .string ⟨x.lot.toArray⟩, .int .i64 x.n] 23
  have hsum := Rg.sumL_app 1 a b
  have HS1 := Lib.hid (fun W => Sum_c 1 (a ++ b) W (by rw [List.length_append]; omega))
  have HS2 := Lib.hid (fun W => Sum_c 1 a W (by omega))
  have HS3 := Lib.hid (fun W => Sum_c (Rg.sumL 1 a) b W (by omega))
  rw [hsum] at HS1
  have g1 : ∀ W, (Op.stringOp .add ⟨a.toArray⟩ ⟨b.toArray⟩).run Tryz.prog W = .ok (.string ⟨(a ++ b).toArray⟩) W := fun W => cat_run a b (by omega) W
  clear hsum
  generalize Rg.sumL (Rg.sumL 1 a) b = M at *
  generalize Rg.sumL 1 a = M1 at *
  generalize a ++ b = ab at *
  rw [ht] at HT
  have y0 : (Rg.rightE x != 0) = true := bne_iff_ne.2 hr
  clear ht hr
  rw [q0] at HN
  clear q0
  generalize Rg.rightE x = c at *
  obtain ⟨k, lot, n⟩ := x
  simp only at J hx h6 q1 q2 q3
  obtain ⟨d0, d1, d2⟩ := cell3 J.c
  have HJ := Lib.hid J
  have HG := Lib.hid hg
  have i1 : ¬ (60 : Int) < (lot.length : Int) := by omega
  have i2 : ¬ (300 : Int) < (a.length : Int) := by omega
  have i3 : ¬ (300 : Int) < (b.length : Int) := by omega
  clear J hg ha hb
  go_enter Tryz.func4, Tryz.ntmps4
  go_wp2_with fail
  ((with_reducible refine (HS1.out _).mono ?_); rintro e w1 ⟨rfl, hb1⟩)
  have HJ1 := Lib.hid (HJ.out.later hb1)
  clear hb1 HS1 HJ d0 d1 d2
  go_wp2_with fail
  ((with_reducible refine (HS2.out _).mono ?_); rintro e w2 ⟨rfl, hb2⟩)
  have HJ2 := Lib.hid (HJ1.out.later hb2)
  clear hb2 HS2 HJ1
  go_wp2_with fail
  ((with_reducible refine (HS3.out _).mono ?_); rintro e w3 ⟨rfl, hb3⟩)
  have J3 := HJ2.out.later hb3
  obtain ⟨d0, d1, d2⟩ := cell3 J3.c
  have HJ3 := Lib.hid J3
  have HG3 := Lib.hid (HG.out.later J3.w)
  clear hb3 HS3 HJ2 J3 g1
  go_wp2_with fail
  ((with_reducible refine (HT.out _ HG3.out).mono ?_); rintro e w4 ⟨rfl, hb4⟩)
  have J4 := HJ3.out.later hb4
  obtain ⟨f0, f1, f2⟩ := cell3 J4.c
  have HJ4 := Lib.hid J4
  have HG4 := Lib.hid (HG.out.later J4.w)
  clear hb4 HT HG3 HJ3 J4 d0 d1 d2
  go_wp2_with fail
  ((with_reducible refine (HN.out _).mono ?_); rintro e w5 ⟨rfl, rfl⟩)
  clear HN
  go_wp2_with fail
  ((with_reducible refine (HA.out _ HG4.out).mono ?_); rintro e w7 ⟨rfl, hb7⟩)
  have J7 := HJ4.out.later hb7
  go_wp2
  go_ret
  first | exact ⟨rfl, J7.w⟩ | exact ⟨ret_bool (by simp; omega), J7.w⟩
set_option maxRecDepth 100000 in
set_option maxHeartbeats 4000000 in
theorem names_bE (x : Rg.En) (a b : Txt) (w : World) (hg : GoodS w) (h6 : x.lot.length ≤ 60) (ha : a.length ≤ 300) (hb : b.length ≤ 300) (hr : Rg.rightE x ≠ 0) (q0 : Rg.nameE x.lot = 0) (q1 : ¬ x.k < 0) (q2 : ¬ 6 < x.k) (q3 : ¬ x.n < 0) (q4 : 1048576 < x.n) :
    Calls Tryz.prog 4 #[entV x, .string ⟨a.toArray⟩, .string ⟨b.toArray⟩] w (Ret w (.bool true)) := by
  have hx : x.lot.length ≤ 140737488355328 := by omega
  have HN := Lib.hid (fun W => rname_c x.lot W hx)
  have ht : Rg.textL x = ([], Rg.rightE x) := by unfold Rg.textL; rw [if_pos hr]
  have HA := Lib.hid (fun W (hW : GoodS W) => awake_c W hW.g)
  have HT := Lib.hid (fun W (hW : GoodS W) => Text_c x W hW.g hx)
  have J := BX.new w #[.int .i64 x.k, .string ⟨x.lot.toArray⟩, .int .i64 x.n] 23
  have hsum := Rg.sumL_app 1 a b
  have HS1 := Lib.hid (fun W => Sum_c 1 (a ++ b) W (by rw [List.length_append]; omega))
  have HS2 := Lib.hid (fun W => Sum_c 1 a W (by omega))
  have HS3 := Lib.hid (fun W => Sum_c (Rg.sumL 1 a) b W (by omega))
  rw [hsum] at HS1
  have g1 : ∀ W, (Op.stringOp .add ⟨a.toArray⟩ ⟨b.toArray⟩).run Tryz.prog W = .ok (.string ⟨(a ++ b).toArray⟩) W := fun W => cat_run a b (by omega) W
  clear hsum
  generalize Rg.sumL (Rg.sumL 1 a) b = M at *
  generalize Rg.sumL 1 a = M1 at *
  generalize a ++ b = ab at *
  rw [ht] at HT
  have y0 : (Rg.rightE x != 0) = true := bne_iff_ne.2 hr
  clear ht hr
  rw [q0] at HN
  clear q0
  generalize Rg.rightE x = c at *
  obtain ⟨k, lot, n⟩ := x
  simp only at J hx h6 q1 q2 q3 q4
  obtain ⟨d0, d1, d2⟩ := cell3 J.c
  have HJ := Lib.hid J
  have HG := Lib.hid hg
  have i1 : ¬ (60 : Int) < (lot.length : Int) := by omega
  have i2 : ¬ (300 : Int) < (a.length : Int) := by omega
  have i3 : ¬ (300 : Int) < (b.length : Int) := by omega
  clear J hg ha hb
  go_enter Tryz.func4, Tryz.ntmps4
  go_wp2_with fail
  ((with_reducible refine (HS1.out _).mono ?_); rintro e w1 ⟨rfl, hb1⟩)
  have HJ1 := Lib.hid (HJ.out.later hb1)
  clear hb1 HS1 HJ d0 d1 d2
  go_wp2_with fail
  ((with_reducible refine (HS2.out _).mono ?_); rintro e w2 ⟨rfl, hb2⟩)
  have HJ2 := Lib.hid (HJ1.out.later hb2)
  clear hb2 HS2 HJ1
  go_wp2_with fail
  ((with_reducible refine (HS3.out _).mono ?_); rintro e w3 ⟨rfl, hb3⟩)
  have J3 := HJ2.out.later hb3
  obtain ⟨d0, d1, d2⟩ := cell3 J3.c
  have HJ3 := Lib.hid J3
  have HG3 := Lib.hid (HG.out.later J3.w)
  clear hb3 HS3 HJ2 J3 g1
  go_wp2_with fail
  ((with_reducible refine (HT.out _ HG3.out).mono ?_); rintro e w4 ⟨rfl, hb4⟩)
  have J4 := HJ3.out.later hb4
  obtain ⟨f0, f1, f2⟩ := cell3 J4.c
  have HJ4 := Lib.hid J4
  have HG4 := Lib.hid (HG.out.later J4.w)
  clear hb4 HT HG3 HJ3 J4 d0 d1 d2
  go_wp2_with fail
  ((with_reducible refine (HN.out _).mono ?_); rintro e w5 ⟨rfl, rfl⟩)
  clear HN
  go_wp2_with fail
  ((with_reducible refine (HA.out _ HG4.out).mono ?_); rintro e w7 ⟨rfl, hb7⟩)
  have J7 := HJ4.out.later hb7
  go_wp2
  go_ret
  first | exact ⟨rfl, J7.w⟩ | exact ⟨ret_bool (by simp; omega), J7.w⟩
set_option maxRecDepth 100000 in
set_option maxHeartbeats 4000000 in
theorem names_bF (x : Rg.En) (a b : Txt) (w : World) (hg : GoodS w) (h6 : x.lot.length ≤ 60) (ha : a.length ≤ 300) (hb : b.length ≤ 300) (hr : Rg.rightE x ≠ 0) (q0 : Rg.nameE x.lot = 0) (q1 : ¬ x.k < 0) (q2 : ¬ 6 < x.k) (q3 : ¬ x.n < 0) (q4 : ¬ 1048576 < x.n) (q5 : (x.n == 0) = false) (q6 : 5 ≤ x.k) :
    Calls Tryz.prog 4 #[entV x, .string ⟨a.toArray⟩, .string ⟨b.toArray⟩] w (Ret w (.bool true)) := by
  have hx : x.lot.length ≤ 140737488355328 := by omega
  have HN := Lib.hid (fun W => rname_c x.lot W hx)
  have ht : Rg.textL x = ([], Rg.rightE x) := by unfold Rg.textL; rw [if_pos hr]
  have HA := Lib.hid (fun W (hW : GoodS W) => awake_c W hW.g)
  have HT := Lib.hid (fun W (hW : GoodS W) => Text_c x W hW.g hx)
  have J := BX.new w #[.int .i64 x.k, .string ⟨x.lot.toArray⟩, .int .i64 x.n] 23
  have hsum := Rg.sumL_app 1 a b
  have HS1 := Lib.hid (fun W => Sum_c 1 (a ++ b) W (by rw [List.length_append]; omega))
  have HS2 := Lib.hid (fun W => Sum_c 1 a W (by omega))
  have HS3 := Lib.hid (fun W => Sum_c (Rg.sumL 1 a) b W (by omega))
  rw [hsum] at HS1
  have g1 : ∀ W, (Op.stringOp .add ⟨a.toArray⟩ ⟨b.toArray⟩).run Tryz.prog W = .ok (.string ⟨(a ++ b).toArray⟩) W := fun W => cat_run a b (by omega) W
  clear hsum
  generalize Rg.sumL (Rg.sumL 1 a) b = M at *
  generalize Rg.sumL 1 a = M1 at *
  generalize a ++ b = ab at *
  rw [ht] at HT
  have y0 : (Rg.rightE x != 0) = true := bne_iff_ne.2 hr
  clear ht hr
  rw [q0] at HN
  clear q0
  generalize Rg.rightE x = c at *
  obtain ⟨k, lot, n⟩ := x
  simp only at J hx h6 q1 q2 q3 q4 q5 q6
  obtain ⟨d0, d1, d2⟩ := cell3 J.c
  have HJ := Lib.hid J
  have HG := Lib.hid hg
  have i1 : ¬ (60 : Int) < (lot.length : Int) := by omega
  have i2 : ¬ (300 : Int) < (a.length : Int) := by omega
  have i3 : ¬ (300 : Int) < (b.length : Int) := by omega
  clear J hg ha hb
  go_enter Tryz.func4, Tryz.ntmps4
  go_wp2_with fail
  ((with_reducible refine (HS1.out _).mono ?_); rintro e w1 ⟨rfl, hb1⟩)
  have HJ1 := Lib.hid (HJ.out.later hb1)
  clear hb1 HS1 HJ d0 d1 d2
  go_wp2_with fail
  ((with_reducible refine (HS2.out _).mono ?_); rintro e w2 ⟨rfl, hb2⟩)
  have HJ2 := Lib.hid (HJ1.out.later hb2)
  clear hb2 HS2 HJ1
  go_wp2_with fail
  ((with_reducible refine (HS3.out _).mono ?_); rintro e w3 ⟨rfl, hb3⟩)
  have J3 := HJ2.out.later hb3
  obtain ⟨d0, d1, d2⟩ := cell3 J3.c
  have HJ3 := Lib.hid J3
  have HG3 := Lib.hid (HG.out.later J3.w)
  clear hb3 HS3 HJ2 J3 g1
  go_wp2_with fail
  ((with_reducible refine (HT.out _ HG3.out).mono ?_); rintro e w4 ⟨rfl, hb4⟩)
  have J4 := HJ3.out.later hb4
  obtain ⟨f0, f1, f2⟩ := cell3 J4.c
  have HJ4 := Lib.hid J4
  have HG4 := Lib.hid (HG.out.later J4.w)
  clear hb4 HT HG3 HJ3 J4 d0 d1 d2
  go_wp2_with fail
  ((with_reducible refine (HN.out _).mono ?_); rintro e w5 ⟨rfl, rfl⟩)
  clear HN
  go_wp2_with fail
  ((with_reducible refine (HA.out _ HG4.out).mono ?_); rintro e w7 ⟨rfl, hb7⟩)
  have J7 := HJ4.out.later hb7
  go_wp2
  go_ret
  first | exact ⟨rfl, J7.w⟩ | exact ⟨ret_bool (by simp; omega), J7.w⟩
set_option maxRecDepth 100000 in
set_option maxHeartbeats 4000000 in
theorem names_bG (x : Rg.En) (a b : Txt) (w : World) (hg : GoodS w) (h6 : x.lot.length ≤ 60) (ha : a.length ≤ 300) (hb : b.length ≤ 300) (hr : Rg.rightE x ≠ 0) (q0 : Rg.nameE x.lot = 0) (q1 : ¬ x.k < 0) (q2 : ¬ 6 < x.k) (q3 : ¬ x.n < 0) (q4 : ¬ 1048576 < x.n) (q5 : (x.n == 0) = true) (q6 : ¬ 5 ≤ x.k) :
    Calls Tryz.prog 4 #[entV x, .string ⟨a.toArray⟩, .string ⟨b.toArray⟩] w (Ret w (.bool true)) := by
  have hx : x.lot.length ≤ 140737488355328 := by omega
  have HN := Lib.hid (fun W => rname_c x.lot W hx)
  have ht : Rg.textL x = ([], Rg.rightE x) := by unfold Rg.textL; rw [if_pos hr]
  have HA := Lib.hid (fun W (hW : GoodS W) => awake_c W hW.g)
  have HT := Lib.hid (fun W (hW : GoodS W) => Text_c x W hW.g hx)
  have J := BX.new w #[.int .i64 x.k, .string ⟨x.lot.toArray⟩, .int .i64 x.n] 23
  have hsum := Rg.sumL_app 1 a b
  have HS1 := Lib.hid (fun W => Sum_c 1 (a ++ b) W (by rw [List.length_append]; omega))
  have HS2 := Lib.hid (fun W => Sum_c 1 a W (by omega))
  have HS3 := Lib.hid (fun W => Sum_c (Rg.sumL 1 a) b W (by omega))
  rw [hsum] at HS1
  have g1 : ∀ W, (Op.stringOp .add ⟨a.toArray⟩ ⟨b.toArray⟩).run Tryz.prog W = .ok (.string ⟨(a ++ b).toArray⟩) W := fun W => cat_run a b (by omega) W
  clear hsum
  generalize Rg.sumL (Rg.sumL 1 a) b = M at *
  generalize Rg.sumL 1 a = M1 at *
  generalize a ++ b = ab at *
  rw [ht] at HT
  have y0 : (Rg.rightE x != 0) = true := bne_iff_ne.2 hr
  clear ht hr
  rw [q0] at HN
  clear q0
  generalize Rg.rightE x = c at *
  obtain ⟨k, lot, n⟩ := x
  simp only at J hx h6 q1 q2 q3 q4 q5 q6
  obtain ⟨d0, d1, d2⟩ := cell3 J.c
  have HJ := Lib.hid J
  have HG := Lib.hid hg
  have i1 : ¬ (60 : Int) < (lot.length : Int) := by omega
  have i2 : ¬ (300 : Int) < (a.length : Int) := by omega
  have i3 : ¬ (300 : Int) < (b.length : Int) := by omega
  clear J hg ha hb
  go_enter Tryz.func4, Tryz.ntmps4
  go_wp2_with fail
  ((with_reducible refine (HS1.out _).mono ?_); rintro e w1 ⟨rfl, hb1⟩)
  have HJ1 := Lib.hid (HJ.out.later hb1)
  clear hb1 HS1 HJ d0 d1 d2
  go_wp2_with fail
  ((with_reducible refine (HS2.out _).mono ?_); rintro e w2 ⟨rfl, hb2⟩)
  have HJ2 := Lib.hid (HJ1.out.later hb2)
  clear hb2 HS2 HJ1
  go_wp2_with fail
  ((with_reducible refine (HS3.out _).mono ?_); rintro e w3 ⟨rfl, hb3⟩)
  have J3 := HJ2.out.later hb3
  obtain ⟨d0, d1, d2⟩ := cell3 J3.c
  have HJ3 := Lib.hid J3
  have HG3 := Lib.hid (HG.out.later J3.w)
  clear hb3 HS3 HJ2 J3 g1
  go_wp2_with fail
  ((with_reducible refine (HT.out _ HG3.out).mono ?_); rintro e w4 ⟨rfl, hb4⟩)
  have J4 := HJ3.out.later hb4
  obtain ⟨f0, f1, f2⟩ := cell3 J4.c
  have HJ4 := Lib.hid J4
  have HG4 := Lib.hid (HG.out.later J4.w)
  clear hb4 HT HG3 HJ3 J4 d0 d1 d2
  go_wp2_with fail
  ((with_reducible refine (HN.out _).mono ?_); rintro e w5 ⟨rfl, rfl⟩)
  clear HN
  go_wp2_with fail
  ((with_reducible refine (HA.out _ HG4.out).mono ?_); rintro e w7 ⟨rfl, hb7⟩)
  have J7 := HJ4.out.later hb7
  go_wp2
  go_ret
  first | exact ⟨rfl, J7.w⟩ | exact ⟨ret_bool (by simp; omega), J7.w⟩
theorem names_c (x : Rg.En) (a b : Txt) (w : World) (hg : GoodS w) (hx : x.lot.length ≤ 140737488355328) (ha : a.length ≤ 140737488355328) (hb : b.length ≤ 140737488355328) :
    Calls Tryz.prog 4 #[entV x, .string ⟨a.toArray⟩, .string ⟨b.toArray⟩] w (Ret w (.bool true)) := by
  by_cases h : 60 < x.lot.length ∨ (¬ 60 < x.lot.length ∧ 300 < a.length) ∨ (¬ 60 < x.lot.length ∧ ¬ 300 < a.length ∧ 300 < b.length)
  · exact names_long x a b w hg hx ha hb h
  have h1 : x.lot.length ≤ 60 := by omega
  have h2 : a.length ≤ 300 := by omega
  have h3 : b.length ≤ 300 := by omega
  by_cases hr : Rg.rightE x = 0
  · exact names_good x a b w hg h1 h2 h3 hr
  by_cases q0 : Rg.nameE x.lot = 0
  rotate_left
  · exact names_bA x a b w hg h1 h2 h3 hr q0
  by_cases q1 : x.k < 0
  · exact names_bB x a b w hg h1 h2 h3 hr q0 q1
  by_cases q2 : 6 < x.k
  · exact names_bC x a b w hg h1 h2 h3 hr q0 q1 q2
  by_cases q3 : x.n < 0
  · exact names_bD x a b w hg h1 h2 h3 hr q0 q1 q2 q3
  by_cases q4 : 1048576 < x.n
  · exact names_bE x a b w hg h1 h2 h3 hr q0 q1 q2 q3 q4
  have hrr : ¬ ((5 ≤ x.k → x.n = 0) ∧ (x.k < 5 → 1 ≤ x.n ∧ x.n ≤ 1048576)) := fun q => hr ((Rg.rightE_iff x).2 ⟨by omega, q0, q.1, q.2⟩)
  by_cases q6 : 5 ≤ x.k
  · exact names_bF x a b w hg h1 h2 h3 hr q0 q1 q2 q3 q4 (beq_eq_false_iff_ne.2 (by omega)) q6
  · exact names_bG x a b w hg h1 h2 h3 hr q0 q1 q2 q3 q4 (beq_iff_eq.2 (by omega)) q6
end Go.Proofs.Wk
