/- STRAIGHTNESS: the law's points, few points. -/
import Derived.Test.YtjopphkhpmoedaaGreatDoorND
import Derived.Test.YtjopphkhpmoedaaGreatDoorSbF
import Derived.ChangeKeysEq
import Derived.Test.YtjopphkhpmoedaaGreatDoorRes
import Derived.Test.YtjopphkhpmoedaaGreatDoorNM
import Derived.Test.YtjopphkhpmoedaaGreatDoorNK
namespace Go.Proofs.Wk
open Go.RowKit Mt

set_option maxRecDepth 100000 in
set_option maxHeartbeats 1000000 in
theorem at_c (x y : Int) (w : World) : Calls Tryz.prog 34 #[.int .i64 x, .int .i64 y] w (Ret w (ptV ⟨x, y⟩)) := by
  have h0 := heap_alloc_new w (.cells #[.int .i64 x, .int .i64 y] 37)
  have hb := below_al w (.cells #[.int .i64 x, .int .i64 y] 37)
  go_enter Tryz.func34, Tryz.ntmps34
  go_wp2_with fail
  refine bodyPost_ret (results_cell_row rfl _ _ w.heap.size 37 #[.int .i64 x, .int .i64 y] (0, 0) _ (by kernel_rfl) h0 Tryz.underlying37 rfl (by kernel_rfl)) rfl ?_
  exact ⟨rfl, hb⟩
/-- Few points, or too many. -/
def fewP (n : Nat) : Bool := decide (n ≤ 8) || (decide (64 < n) && decide (n < 128))
set_option maxRecDepth 100000 in
set_option maxHeartbeats 1000000 in
theorem rFewP_c {v : Value} (ls : List St.Pt) (w : World) (S : SlX w v ls) (hln : ls.length ≤ 140737488355328) : Calls Tryz.prog 17 #[v] w (Pur w (.bool (fewP ls.length))) := by
  obtain ⟨sa, cap, rfl⟩ := S.len
  clear S
  generalize ls.length = n at *
  unfold fewP
  by_cases h1 : n ≤ 8
  · rw [decide_eq_true h1]
    have z : (n : Int) ≤ 8 := by omega
    go_enter Tryz.func17, Tryz.ntmps17
    go_wp2
    go_ret
    exact ⟨ret_bool (by simp), rfl⟩
  · rw [decide_eq_false h1]
    have z : ¬ (n : Int) ≤ 8 := by omega
    by_cases h2 : 64 < n
    · have z2 : (64 : Int) < (n : Int) := by omega
      rw [decide_eq_true h2]
      clear h1 h2
      by_cases h3 : n < 128
      · have z3 : (n : Int) < 128 := by omega
        rw [decide_eq_true h3]
        clear h3
        go_enter Tryz.func17, Tryz.ntmps17
        go_wp2
        go_ret
        exact ⟨ret_bool (by simp), rfl⟩
      · have z3 : ¬ (n : Int) < 128 := by omega
        rw [decide_eq_false h3]
        clear h3
        go_enter Tryz.func17, Tryz.ntmps17
        go_wp2
        go_ret
        exact ⟨ret_bool (by simp), rfl⟩
    · have z2 : ¬ (64 : Int) < (n : Int) := by omega
      rw [decide_eq_false h2]
      clear h1 h2
      go_enter Tryz.func17, Tryz.ntmps17
      go_wp2
      go_ret
      exact ⟨ret_bool (by simp), rfl⟩
theorem ar_equal (a b c d : Int) (w : World) : (Op.equalIn 10000 47 (.agg #[.int .i64 a, .int .i64 b]) (.agg #[.int .i64 c, .int .i64 d])).run Tryz.prog w = .ok (a == c && b == d) w := by
  obtain ⟨i, hi⟩ : ∃ i, Tryz.prog.info? 3 = some i := Option.isSome_iff_exists.1 (by kernel_rfl)
  have hc : Tryz.prog.cellsOf 3 = 1 := by kernel_rfl
  rw [show (10000 : Nat) = 9999 + 1 from rfl, run_equalIn_array w 9999 _ _ Tryz.underlying47 hi, hc]
  have p1 : ∀ (u v : Int) (W : World), (part 3 #[.int .i64 u, .int .i64 v] 0).run Tryz.prog W = .ok (.int .i64 u) W := fun u v W => by simp [part, isAgg, run_underlying Tryz.underlying3]
  have p2 : ∀ (u v : Int) (W : World), (part 3 #[.int .i64 u, .int .i64 v] 1).run Tryz.prog W = .ok (.int .i64 v) W := fun u v W => by simp [part, isAgg, run_underlying Tryz.underlying3]
  have e1 := fun (u v : Int) (W : World) => run_equalIn_int (P := Tryz.prog) W 9998 3 .i64 .i64 u v Tryz.underlying3
  simp only [show List.range 2 = [0, 1] from rfl, Op.eqItems, Nat.zero_mul, Nat.one_mul, Sem.run_bind, p1, p2, Result.andThen_ok, e1, Sem.run_ite]
  cases h1 : (a == c) <;> cases h2 : (b == d) <;> simp
theorem ar_eql (a b c d : Int) (w : World) : (binOp .eql 47 (.agg #[.int .i64 a, .int .i64 b]) (.agg #[.int .i64 c, .int .i64 d])).run Tryz.prog w = .ok (.bool (a == c && b == d)) w := by
  rw [run_eql_struct, ar_equal]; rfl
end Go.Proofs.Wk
/- STRAIGHTNESS: the chapter's examples, walked. -/
namespace Go.Proofs.Wk
open Go.RowKit Mt
attribute [local go_sem] Oper.semAt_some

theorem sl3 (W : World) (a b c : St.Pt) (t : TypeId) : SlX (W.alloc (.cells #[.int .i64 a.x, .int .i64 a.y, .int .i64 b.x, .int .i64 b.y, .int .i64 c.x, .int .i64 c.y] t)) (.slice (some ⟨W.heap.size, 0, none⟩) 3 3) [a, b, c] :=
  .inr ⟨W.heap.size, 0, 3, rfl, RX.lit W [a, b, c] t, by simp⟩
theorem sl3n (W : World) (a b c : Nat) (t : TypeId) : SlX (W.alloc (.cells #[.int .i64 (a : Int), .int .i64 (b : Int), .int .i64 (c : Int)] t)) (.slice (some ⟨W.heap.size, 0, none⟩) 3 3) [a, b, c] :=
  .inr ⟨W.heap.size, 0, 3, rfl, RX.lit W [a, b, c] t, by simp⟩
theorem givP_tri : St.givP St.tri3 = 0 := by decide
theorem givP_flat : St.givP St.flat3 = 0 := by decide
theorem widV_tri : widV St.tri3 = .tuple #[.string ⟨#[49, 52, 52, 47, 50, 53]⟩, .agg #[.int .i64 1, .int .i64 2], .int .i64 0, .int .i64 0] := by
  unfold widV
  rw [if_pos givP_tri, bsQ_wid, St.tri3_wid, St.tri3_least]
  rw [show rtoa (Rat.divInt 144 25) = [49, 52, 52, 47, 50, 53] by decide +kernel]
  rfl
theorem widV_flat : widV St.flat3 = .tuple #[.string ⟨#[49]⟩, .agg #[.int .i64 0, .int .i64 2], .int .i64 1, .int .i64 0] := by
  unfold widV
  rw [if_pos givP_flat, bsQ_wid, St.flat3_wid, St.flat3_least]
  rw [show rtoa 1 = [49] by decide +kernel]
  rfl
theorem acrE_tri : acrE St.tri3 ⟨0, 0⟩ ⟨1, 0⟩ = ([57], 0) := by
  rw [acrE_ok givP_tri (by decide) (by decide) (by decide), St.tri3_acr]
  rw [show rtoa (St.wq 3 ⟨0, 0⟩ ⟨1, 0⟩) = [57] by decide +kernel]
theorem withE_flat : withE St.flat3 1 = (true, 0) := by
  rw [withE_ok givP_flat (by decide)]
  unfold St.keeps
  rw [St.flat3_wid]
  decide +kernel
theorem rejE_flat : rejE St.flat3 0 = ([0, 1, 2], 0) := by
  rw [rejE_ok givP_flat (by decide) (by decide), St.flat3_rej]; rfl
set_option maxRecDepth 100000 in
set_option maxHeartbeats 4000000 in
theorem awake_c (w : World) (hg : Good w) : Calls Tryz.prog 11 #[] w (Ret w (.bool true)) := by
  have HG := Lib.hid hg
  have HAT := Lib.hid (fun x y W => at_c x y W)
  have HW1 := Lib.hid (fun v W hg S => by have := Width_c (v := v) St.tri3 W hg S (by decide); rwa [widV_tri] at this)
  have HW2 := Lib.hid (fun v W hg S => by have := Width_c (v := v) St.flat3 W hg S (by decide); rwa [widV_flat] at this)
  have HAC := Lib.hid (fun v W hg S => by have := Across_c (v := v) St.tri3 ⟨0, 0⟩ ⟨1, 0⟩ W hg S (by decide); rwa [acrE_tri] at this)
  have HWI := Lib.hid (fun v W hg S => by have := Within_c (v := v) St.flat3 1 W hg S (by decide); rwa [withE_flat] at this)
  have HRJ := Lib.hid (fun v W hg S => by have := Reject_c (v := v) St.flat3 0 W hg S (by decide); rwa [rejE_flat] at this)
  have HEQ := Lib.hid (fun v u W S T => Equal_c (v := v) (u := u) [0, 1, 2] [0, 1, 2] W S T (by decide) (by decide))
  clear hg
  go_enter Tryz.func11, Tryz.ntmps11
  go_wp2_with fail
  ((with_reducible refine (HAT.out _ _ _).mono ?_); rintro e w1 ⟨rfl, b1⟩)
  go_wp2_with fail
  ((with_reducible refine (HAT.out _ _ _).mono ?_); rintro e w2 ⟨rfl, b2⟩)
  have B2 := b1.nx b2
  clear b1 b2
  go_wp2_with fail
  ((with_reducible refine (HAT.out _ _ _).mono ?_); rintro e w3 ⟨rfl, b3⟩)
  have B3 := B2.nx b3
  clear B2 b3
  go_wp2_with fail
  have s1 := sl3 w3 ⟨0, 0⟩ ⟨4, 0⟩ ⟨0, 3⟩ 37
  have B4 := B3.nx (below_al w3 (.cells #[.int .i64 0, .int .i64 0, .int .i64 4, .int .i64 0, .int .i64 0, .int .i64 3] 37))
  simp only at s1
  generalize w3.alloc (.cells #[.int .i64 0, .int .i64 0, .int .i64 4, .int .i64 0, .int .i64 0, .int .i64 3] 37) = w4 at *
  generalize w3.heap.size = g1 at *
  ((with_reducible refine (HAT.out _ _ _).mono ?_); rintro e w5 ⟨rfl, b5⟩)
  have B5 := B4.nx b5
  replace s1 := s1.later b5
  clear b5
  go_wp2_with fail
  ((with_reducible refine (HAT.out _ _ _).mono ?_); rintro e w6 ⟨rfl, b6⟩)
  have B6 := B5.nx b6
  replace s1 := s1.later b6
  clear b6
  go_wp2_with fail
  ((with_reducible refine (HAT.out _ _ _).mono ?_); rintro e w7 ⟨rfl, b7⟩)
  have B7 := B6.nx b7
  replace s1 := s1.later b7
  clear b7
  go_wp2_with fail
  have s2 := sl3 w7 ⟨0, 0⟩ ⟨10, 1⟩ ⟨20, 0⟩ 37
  have A8 := below_al w7 (.cells #[.int .i64 0, .int .i64 0, .int .i64 10, .int .i64 1, .int .i64 20, .int .i64 0] 37)
  have B8 := B7.nx A8
  replace s1 := s1.later A8
  clear A8
  simp only at s2
  generalize w7.alloc (.cells #[.int .i64 0, .int .i64 0, .int .i64 10, .int .i64 1, .int .i64 20, .int .i64 0] 37) = w8 at *
  generalize w7.heap.size = g2 at *
  ((with_reducible refine (HW1.out _ _ (HG.out.later B8) s1).mono ?_); rintro e w9 ⟨rfl, b9⟩)
  have B9 := B8.nx b9
  replace s1 := s1.later b9
  replace s2 := s2.later b9
  clear b9
  have h1 := heap_alloc_new w9 (.cells #[.int .i64 1, .int .i64 2] 47)
  have A10 := below_al w9 (.cells #[.int .i64 1, .int .i64 2] 47)
  have B10 := B9.nx A10
  replace s1 := s1.later A10
  replace s2 := s2.later A10
  clear A10
  go_wp2_with fail
  generalize w9.alloc (.cells #[.int .i64 1, .int .i64 2] 47) = w10 at *
  generalize w9.heap.size = g3 at *
  ((with_reducible refine (HW2.out _ _ (HG.out.later B10) s2).mono ?_); rintro e w11 ⟨rfl, b11⟩)
  have B11 := B10.nx b11
  replace s1 := s1.later b11
  replace s2 := s2.later b11
  replace h1 := (b11.block _ (Array.getElem?_eq_some_iff.1 h1).1).trans h1
  clear b11
  have h2 := heap_alloc_new w11 (.cells #[.int .i64 0, .int .i64 2] 47)
  have A12 := below_al w11 (.cells #[.int .i64 0, .int .i64 2] 47)
  have B12 := B11.nx A12
  replace s1 := s1.later A12
  replace s2 := s2.later A12
  replace h1 := (A12.block _ (Array.getElem?_eq_some_iff.1 h1).1).trans h1
  clear A12
  go_wp2_with fail
  generalize w11.alloc (.cells #[.int .i64 0, .int .i64 2] 47) = w12 at *
  generalize w11.heap.size = g4 at *
  ((with_reducible refine (HAT.out _ _ _).mono ?_); rintro e w13 ⟨rfl, b13⟩)
  have B13 := B12.nx b13
  replace s1 := s1.later b13
  replace s2 := s2.later b13
  replace h1 := (b13.block _ (Array.getElem?_eq_some_iff.1 h1).1).trans h1
  replace h2 := (b13.block _ (Array.getElem?_eq_some_iff.1 h2).1).trans h2
  clear b13
  go_wp2_with fail
  ((with_reducible refine (HAT.out _ _ _).mono ?_); rintro e w14 ⟨rfl, b14⟩)
  have B14 := B13.nx b14
  replace s1 := s1.later b14
  replace s2 := s2.later b14
  replace h1 := (b14.block _ (Array.getElem?_eq_some_iff.1 h1).1).trans h1
  replace h2 := (b14.block _ (Array.getElem?_eq_some_iff.1 h2).1).trans h2
  clear b14
  go_wp2_with fail
  ((with_reducible refine (HAC.out _ _ (HG.out.later B14) s1).mono ?_); rintro e w15 ⟨rfl, b15⟩)
  have B15 := B14.nx b15
  replace s2 := s2.later b15
  replace h1 := (b15.block _ (Array.getElem?_eq_some_iff.1 h1).1).trans h1
  replace h2 := (b15.block _ (Array.getElem?_eq_some_iff.1 h2).1).trans h2
  clear b15
  clear s1
  go_wp2_with fail
  ((with_reducible refine (HWI.out _ _ (HG.out.later B15) s2).mono ?_); rintro e w16 ⟨rfl, b16⟩)
  have B16 := B15.nx b16
  replace s2 := s2.later b16
  replace h1 := (b16.block _ (Array.getElem?_eq_some_iff.1 h1).1).trans h1
  replace h2 := (b16.block _ (Array.getElem?_eq_some_iff.1 h2).1).trans h2
  clear b16
  go_wp2_with fail
  ((with_reducible refine (HRJ.out _ _ (HG.out.later B16) s2).mono ?_); rintro e w17 ⟨u, rfl, s3, b17⟩)
  have B17 := B16.nx b17
  replace h1 := (b17.block _ (Array.getElem?_eq_some_iff.1 h1).1).trans h1
  replace h2 := (b17.block _ (Array.getElem?_eq_some_iff.1 h2).1).trans h2
  clear b17 s2
  have ae := fun a b c d W => ar_eql a b c d W
  obtain ⟨k0, k1⟩ := c2row h1
  obtain ⟨k2, k3⟩ := c2row h2
  obtain ⟨ua, ucap, rfl⟩ := s3.lenN
  simp only [List.length_cons, List.length_nil, Nat.zero_add, Nat.reduceAdd] at s3
  have S3 := Lib.hid s3
  clear h1 h2 s3
  go_wp2_with fail
  have e3 : SlX (w17.alloc (.cells #[.int .i64 0, .int .i64 1, .int .i64 2] 3)) (.slice (some ⟨w17.heap.size, 0, none⟩) 3 3) [0, 1, 2] := sl3n w17 0 1 2 3
  ((with_reducible refine (HEQ.out _ _ _ (S3.out.later (below_al w17 _)) e3).mono ?_); rintro e w18 ⟨rfl, b18⟩)
  have B18 := (B17.nx (below_al w17 _)).nx b18
  go_wp2
  go_ret
  exact ⟨rfl, B18⟩
end Go.Proofs.Wk
