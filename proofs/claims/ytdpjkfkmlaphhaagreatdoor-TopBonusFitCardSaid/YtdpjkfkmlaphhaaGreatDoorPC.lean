/- POSITION: features, their checks in the program and in the reference. -/
import Derived.Test.YtdpjkfkmlaphhaaGreatDoorPB
import Derived.Test.YtdpjkfkmlaphhaaGreatDoorPA
import Derived.Test.YtdpjkfkmlaphhaaGreatDoorKC
import Derived.Laws.StructEq
namespace Go.Proofs.Wk
open Go.RowKit Mt Po

theorem lm_fields : ((Tryz.prog.fieldsOf 25).toList.map fun f => (f.name, f.type, f.offset)) = [("Low", 3, 0), ("High", 3, 1)] := by kernel_rfl
theorem lm_equal (a b c d : Int) (w : World) : (Op.equalIn 10000 25 (.agg #[.int .i64 a, .int .i64 b]) (.agg #[.int .i64 c, .int .i64 d])).run Tryz.prog w = .ok (a == c && b == d) w := by
  have hf := lm_fields
  rw [show (10000 : Nat) = 9999 + 1 from rfl, run_equalIn_agg w 9999 25 _ _ (by kernel_rfl) (by kernel_rfl)]
  generalize (Tryz.prog.fieldsOf 25).toList = fs at *
  rcases fs with _ | ⟨f, _ | ⟨g, _ | ⟨_, _⟩⟩⟩
  · simp at hf
  · simp at hf
  · simp only [List.map_cons, List.map_nil, List.cons.injEq, Prod.mk.injEq, and_true] at hf
    obtain ⟨⟨f1, f2, f3⟩, g1, g2, g3⟩ := hf
    have p1 : ∀ (u v : Int) (W : World), (part 3 #[.int .i64 u, .int .i64 v] 0).run Tryz.prog W = .ok (.int .i64 u) W := fun u v W => by simp [part, isAgg, run_underlying Tryz.underlying3]
    have p2 : ∀ (u v : Int) (W : World), (part 3 #[.int .i64 u, .int .i64 v] 1).run Tryz.prog W = .ok (.int .i64 v) W := fun u v W => by simp [part, isAgg, run_underlying Tryz.underlying3]
    have e1 := fun (u v : Int) (W : World) => run_equalIn_int (P := Tryz.prog) W 9998 3 .i64 .i64 u v Tryz.underlying3
    simp only [Op.eqFields, f1, f2, f3, g1, g2, g3, show (("Low" : String) ≠ "_") = True from by simp, show (("High" : String) ≠ "_") = True from by simp, if_true, Sem.run_bind, p1, p2, Result.andThen_ok, e1, Sem.run_ite]
    cases h1 : (a == c) <;> cases h2 : (b == d) <;> simp
  · simp at hf
theorem lm_neq (a b c d : Int) (w : World) : (binOp .neq 25 (.agg #[.int .i64 a, .int .i64 b]) (.agg #[.int .i64 c, .int .i64 d])).run Tryz.prog w = .ok (.bool (!(a == c && b == d))) w := by
  rw [run_neq_struct, lm_equal]; rfl
theorem fin_c (n : Int) (w : World) : Calls Tryz.prog 211 #[.int .i64 n] w (Pur w (.bool (inC n))) := by
  unfold inC
  rcases (by omega : n < -100000 ∨ (-100000 ≤ n ∧ n ≤ 100000) ∨ 100000 < n) with h | ⟨h, h'⟩ | h
  · rw [decide_eq_false (by omega)]
    go_enter Tryz.func211, Tryz.ntmps211; go_wp2; go_ret; refine ⟨ret_bool ?_, rfl⟩; first | rfl | (simp; done) | (simp; omega)
  · rw [decide_eq_true (by omega)]
    go_enter Tryz.func211, Tryz.ntmps211; go_wp2; go_ret; refine ⟨ret_bool ?_, rfl⟩; first | rfl | (simp; done) | (simp; omega)
  · rw [decide_eq_false (by omega)]
    go_enter Tryz.func211, Tryz.ntmps211; go_wp2; go_ret; refine ⟨ret_bool ?_, rfl⟩; first | rfl | (simp; done) | (simp; omega)
theorem drg_c (n : Int) (w : World) : Calls Tryz.prog 212 #[.int .i64 n] w (Pur w (.bool (inC n))) := by
  unfold inC
  rcases (by omega : n < -100000 ∨ (-100000 ≤ n ∧ n ≤ 100000) ∨ 100000 < n) with h | ⟨h, h'⟩ | h
  · rw [decide_eq_false (by omega)]
    go_enter Tryz.func212, Tryz.ntmps212; go_wp2; go_ret; refine ⟨ret_bool ?_, rfl⟩; first | rfl | (simp; done) | (simp; omega)
  · rw [decide_eq_true (by omega)]
    go_enter Tryz.func212, Tryz.ntmps212; go_wp2; go_ret; refine ⟨ret_bool ?_, rfl⟩; first | rfl | (simp; done) | (simp; omega)
  · rw [decide_eq_false (by omega)]
    go_enter Tryz.func212, Tryz.ntmps212; go_wp2; go_ret; refine ⟨ret_bool ?_, rfl⟩; first | rfl | (simp; done) | (simp; omega)
theorem rIn_c (n : Int) (w : World) : Calls Tryz.prog 187 #[.int .i64 n] w (Pur w (.bool (inC n))) := by
  unfold inC
  rcases (by omega : n < -100000 ∨ (-100000 ≤ n ∧ n ≤ 100000) ∨ 100000 < n) with h | ⟨h, h'⟩ | h
  · rw [decide_eq_false (by omega)]
    go_enter Tryz.func187, Tryz.ntmps187; go_wp2; go_ret; refine ⟨ret_bool ?_, rfl⟩; first | rfl | (simp; done) | (simp; omega)
  · rw [decide_eq_true (by omega)]
    go_enter Tryz.func187, Tryz.ntmps187; go_wp2; go_ret; refine ⟨ret_bool ?_, rfl⟩; first | rfl | (simp; done) | (simp; omega)
  · rw [decide_eq_false (by omega)]
    go_enter Tryz.func187, Tryz.ntmps187; go_wp2; go_ret; refine ⟨ret_bool ?_, rfl⟩; first | rfl | (simp; done) | (simp; omega)
set_option maxRecDepth 100000 in
set_option maxHeartbeats 1000000 in
theorem franged_c (p : Sp) (w : World) : Calls Tryz.prog 156 #[spV p] w (Ret w (.bool (inP p))) := by
  rw [inP_eq]
  obtain ⟨x, y, z⟩ := p
  have HX := Lib.hid (fun W => fin_c x W)
  have HY := Lib.hid (fun W => fin_c y W)
  have HZ := Lib.hid (fun W => fin_c z W)
  have hb := below_al w (.cells #[.int .i64 x, .int .i64 y, .int .i64 z] 23)
  generalize inC x = bx at *
  generalize inC y = by_ at *
  generalize inC z = bz at *
  cases bx with
  | false =>
    go_enter Tryz.func156, Tryz.ntmps156
    go_wp2_with fail
    ((with_reducible refine (HX.out _).mono ?_); rintro e w' ⟨rfl, rfl⟩)
    go_wp2
    go_ret
    exact ⟨rfl, hb⟩
  | true =>
    cases by_ with
    | false =>
      go_enter Tryz.func156, Tryz.ntmps156
      go_wp2_with fail
      ((with_reducible refine (HX.out _).mono ?_); rintro e w' ⟨rfl, rfl⟩)
      go_wp2_with fail
      ((with_reducible refine (HY.out _).mono ?_); rintro e w' ⟨rfl, rfl⟩)
      go_wp2
      go_ret
      exact ⟨rfl, hb⟩
    | true =>
      go_enter Tryz.func156, Tryz.ntmps156
      go_wp2_with fail
      ((with_reducible refine (HX.out _).mono ?_); rintro e w' ⟨rfl, rfl⟩)
      go_wp2_with fail
      ((with_reducible refine (HY.out _).mono ?_); rintro e w' ⟨rfl, rfl⟩)
      go_wp2_with fail
      ((with_reducible refine (HZ.out _).mono ?_); rintro e w' ⟨rfl, rfl⟩)
      go_wp2
      go_ret
      exact ⟨ret_bool (by simp), hb⟩
set_option maxRecDepth 100000 in
set_option maxHeartbeats 1000000 in
theorem dlim_c (lo hi : Int) (w : World) : Calls Tryz.prog 157 #[.agg #[.int .i64 lo, .int .i64 hi]] w (Ret w (.int .i64 (limE lo hi))) := by
  have HX := Lib.hid (fun W => drg_c lo W)
  have HY := Lib.hid (fun W => drg_c hi W)
  have hb := below_al w (.cells #[.int .i64 lo, .int .i64 hi] 25)
  unfold limE
  generalize inC lo = bx at *
  generalize inC hi = by_ at *
  cases bx with
  | false =>
    rw [if_pos (by simp)]
    go_enter Tryz.func157, Tryz.ntmps157
    go_wp2_with fail
    ((with_reducible refine (HX.out _).mono ?_); rintro e w' ⟨rfl, rfl⟩)
    go_wp2
    go_ret
    exact ⟨rfl, hb⟩
  | true =>
    cases by_ with
    | false =>
      rw [if_pos (by simp)]
      go_enter Tryz.func157, Tryz.ntmps157
      go_wp2_with fail
      ((with_reducible refine (HX.out _).mono ?_); rintro e w' ⟨rfl, rfl⟩)
      go_wp2_with fail
      ((with_reducible refine (HY.out _).mono ?_); rintro e w' ⟨rfl, rfl⟩)
      go_wp2
      go_ret
      exact ⟨rfl, hb⟩
    | true =>
      rw [if_neg (by simp)]
      by_cases h : hi < lo
      · rw [if_pos h]
        go_enter Tryz.func157, Tryz.ntmps157
        go_wp2_with fail
        ((with_reducible refine (HX.out _).mono ?_); rintro e w' ⟨rfl, rfl⟩)
        go_wp2_with fail
        ((with_reducible refine (HY.out _).mono ?_); rintro e w' ⟨rfl, rfl⟩)
        go_wp2
        go_ret
        exact ⟨rfl, hb⟩
      · rw [if_neg h]
        go_enter Tryz.func157, Tryz.ntmps157
        go_wp2_with fail
        ((with_reducible refine (HX.out _).mono ?_); rintro e w' ⟨rfl, rfl⟩)
        go_wp2_with fail
        ((with_reducible refine (HY.out _).mono ?_); rintro e w' ⟨rfl, rfl⟩)
        go_wp2
        go_ret
        exact ⟨rfl, hb⟩
set_option maxRecDepth 100000 in
set_option maxHeartbeats 1000000 in
theorem rlim_c (lo hi : Int) (w : World) : Calls Tryz.prog 188 #[.agg #[.int .i64 lo, .int .i64 hi]] w (Ret w (.int .i64 (limE lo hi))) := by
  have HX := Lib.hid (fun W => rIn_c lo W)
  have HY := Lib.hid (fun W => rIn_c hi W)
  have hb := below_al w (.cells #[.int .i64 lo, .int .i64 hi] 25)
  unfold limE
  generalize inC lo = bx at *
  generalize inC hi = by_ at *
  cases bx with
  | false =>
    rw [if_pos (by simp)]
    go_enter Tryz.func188, Tryz.ntmps188
    go_wp2_with fail
    ((with_reducible refine (HX.out _).mono ?_); rintro e w' ⟨rfl, rfl⟩)
    go_wp2
    go_ret
    exact ⟨rfl, hb⟩
  | true =>
    cases by_ with
    | false =>
      rw [if_pos (by simp)]
      go_enter Tryz.func188, Tryz.ntmps188
      go_wp2_with fail
      ((with_reducible refine (HX.out _).mono ?_); rintro e w' ⟨rfl, rfl⟩)
      go_wp2_with fail
      ((with_reducible refine (HY.out _).mono ?_); rintro e w' ⟨rfl, rfl⟩)
      go_wp2
      go_ret
      exact ⟨rfl, hb⟩
    | true =>
      rw [if_neg (by simp)]
      by_cases h : hi < lo
      · rw [if_pos h]
        go_enter Tryz.func188, Tryz.ntmps188
        go_wp2_with fail
        ((with_reducible refine (HX.out _).mono ?_); rintro e w' ⟨rfl, rfl⟩)
        go_wp2_with fail
        ((with_reducible refine (HY.out _).mono ?_); rintro e w' ⟨rfl, rfl⟩)
        go_wp2
        go_ret
        exact ⟨rfl, hb⟩
      · rw [if_neg h]
        go_enter Tryz.func188, Tryz.ntmps188
        go_wp2_with fail
        ((with_reducible refine (HX.out _).mono ?_); rintro e w' ⟨rfl, rfl⟩)
        go_wp2_with fail
        ((with_reducible refine (HY.out _).mono ?_); rintro e w' ⟨rfl, rfl⟩)
        go_wp2
        go_ret
        exact ⟨rfl, hb⟩
set_option maxRecDepth 100000 in
set_option maxHeartbeats 16000000 in
theorem fea_c (f : Ft) (fv : Value) (w : World) (hn : f.nm.length ≤ 140737488355328) : Calls Tryz.prog 101 #[ftV f fv] w (Ret w (.int .i64 (ftE f))) := by
  obtain ⟨nm, kind, axis, ⟨x, y, z⟩, lo, hi⟩ := f
  simp only at hn
  have HN := Lib.hid (fun W => dname_c nm W hn)
  have HL := Lib.hid (fun W => dlim_c lo hi W)
  have HR := Lib.hid (fun W => franged_c ⟨x, y, z⟩ W)
  have hA := below_al w (.cells #[.string ⟨nm.toArray⟩, .int .i64 kind, .int .i64 axis, .int .i64 x, .int .i64 y, .int .i64 z, .int .i64 lo, .int .i64 hi, fv] 28)
  have hr := heap_alloc_new w (.cells #[.string ⟨nm.toArray⟩, .int .i64 kind, .int .i64 axis, .int .i64 x, .int .i64 y, .int .i64 z, .int .i64 lo, .int .i64 hi, fv] 28)
  have hq := fun W => lm_neq lo hi 0 0 W
  obtain ⟨E, hE⟩ : ∃ E, ftE ⟨nm, kind, axis, ⟨x, y, z⟩, lo, hi⟩ = E := ⟨_, rfl⟩
  rw [hE]
  unfold ftE at hE
  simp only at hE
  have HE := Lib.hid hE
  clear hE
  generalize Rg.nameE nm = N at *
  generalize limE lo hi = LE at *
  generalize inP ⟨x, y, z⟩ = IP at *
  clear hn
  go_enter Tryz.func101, Tryz.ntmps101
  go_wp2_with fail
  generalize w.alloc (.cells #[.string ⟨nm.toArray⟩, .int .i64 kind, .int .i64 axis, .int .i64 x, .int .i64 y, .int .i64 z, .int .i64 lo, .int .i64 hi, fv] 28) = W0 at *
  ((with_reducible refine (HN.out _).mono ?_); rintro e w1 ⟨rfl, hb1⟩)
  have hB1 := hA.nx hb1
  have hr1 := keepD hr hb1
  clear hr hA
  obtain ⟨c0, c1, c2, c3, c4, c5, c6, c7, c8⟩ := c9row hr1
  by_cases hN : N = 0
  rotate_left
  · obtain rfl : N = E := by have := HE.out; rwa [if_pos hN] at this
    have h3 := bne_ne hN
    clear c0 c1 c2 c3 c4 c5 c6 c7 c8 hr1
    go_wp2
    go_ret
    exact ⟨rfl, hB1⟩
  subst hN
  replace HE := HE.out
  rw [if_neg (by simp)] at HE
  by_cases hk : kind < 0 ∨ 5 ≤ kind ∨ axis < 0 ∨ 3 ≤ axis
  · obtain rfl : 1 = E := by rwa [if_pos hk] at HE
    clear HE
    rcases (by omega : kind < 0 ∨ (¬ kind < 0 ∧ 5 ≤ kind) ∨ (¬ kind < 0 ∧ ¬ 5 ≤ kind ∧ axis < 0) ∨ (¬ kind < 0 ∧ ¬ 5 ≤ kind ∧ ¬ axis < 0 ∧ 3 ≤ axis)) with z | ⟨z, z1⟩ | ⟨z, z1, z2⟩ | ⟨z, z1, z2, z3⟩
    all_goals
      clear hk hr1
      go_wp2
      go_ret
      exact ⟨rfl, hB1⟩
  rw [if_neg hk] at HE
  obtain ⟨z0, z1, z2, z3⟩ : ¬ kind < 0 ∧ ¬ 5 ≤ kind ∧ ¬ axis < 0 ∧ ¬ 3 ≤ axis := ⟨by omega, by omega, by omega, by omega⟩
  clear hk
  by_cases h4 : kind = 4 ∧ axis ≠ 0
  · obtain rfl : 3 = E := by rwa [if_pos h4] at HE
    clear HE
    obtain ⟨rfl, h5⟩ := h4
    have h6 := bne_ne h5
    clear hr1
    go_wp2
    go_ret
    exact ⟨rfl, hB1⟩
  rw [if_neg h4] at HE
  replace HE := Lib.hid HE
  have h7 : (kind == 4) = false ∨ ((kind == 4) = true ∧ (axis != 0) = false) := by
    by_cases q : kind = 4
    · right
      exact ⟨by rw [q]; rfl, by
        have : axis = 0 := Classical.byContradiction fun c => h4 ⟨q, c⟩
        rw [this]; rfl⟩
    · left; exact beq_eq_false_iff_ne.2 q
  clear h4
  rcases h7 with h7 | ⟨h7, h8⟩
  all_goals
    go_wp2_with fail
    ((with_reducible refine (HR.out _).mono ?_); rintro e w2 ⟨rfl, hb2⟩)
    have hB2 := hB1.nx hb2
    have hr2 := keepD hr1 hb2
    clear c0 c1 c2 c3 c4 c5 c6 c7 c8 hr1 hb2 hB1
    obtain ⟨c0, c1, c2, c3, c4, c5, c6, c7, c8⟩ := c9row hr2
    cases IP with
    | false =>
      obtain rfl : 2 = E := by have := HE.out; rwa [if_pos rfl] at this
      go_wp2
      go_ret
      exact ⟨rfl, hB2⟩
    | true =>
      replace HE := HE.out
      rw [if_neg (by simp)] at HE
      by_cases hk0 : kind = 0
      · subst hk0
        rw [if_pos rfl] at HE
        by_cases hl : lo = 0 ∧ hi = 0
        · obtain rfl : 0 = E := by rwa [if_pos hl] at HE
          clear HE
          obtain ⟨rfl, rfl⟩ := hl
          go_wp2
          go_ret
          exact ⟨rfl, hB2⟩
        · obtain rfl : 3 = E := by rwa [if_neg hl] at HE
          clear HE
          have hlq : (lo == 0 && hi == 0) = false := by
            rw [Bool.eq_false_iff]; intro c; rw [Bool.and_eq_true, beq_iff_eq, beq_iff_eq] at c; exact hl c
          rw [hlq] at hq
          clear hl
          go_wp2
          go_ret
          exact ⟨rfl, hB2⟩
      rw [if_neg hk0] at HE
      replace HE := Lib.hid HE
      have hk1 : (kind == 0) = false := beq_eq_false_iff_ne.2 hk0
      clear hk0
      go_wp2_with fail
      ((with_reducible refine (HL.out _).mono ?_); rintro e w9 ⟨rfl, hb9⟩)
      have hB9 := hB2.nx hb9
      obtain ⟨d0, d1, d2, d3, d4, d5, d6, d7, d8⟩ := c9row (keepD hr2 hb9)
      clear c0 c1 c2 c3 c4 c5 c6 c7 c8
      by_cases hl : LE = 0
      rotate_left
      · obtain rfl : LE = E := by have := HE.out; rwa [if_pos hl] at this
        have h3 := bne_ne hl
        go_wp2
        go_ret
        exact ⟨rfl, hB9⟩
      subst hl
      replace HE := HE.out
      rw [if_neg (by simp)] at HE
      by_cases hl1 : lo < 1
      · obtain rfl : 2 = E := by rwa [if_pos hl1] at HE
        clear HE
        go_wp2
        go_ret
        exact ⟨rfl, hB9⟩
      · obtain rfl : 0 = E := by rwa [if_neg hl1] at HE
        clear HE
        go_wp2
        go_ret
        exact ⟨rfl, hB9⟩
set_option maxRecDepth 100000 in
set_option maxHeartbeats 16000000 in
theorem rfea_c (f : Ft) (fv : Value) (w : World) (hn : f.nm.length ≤ 140737488355328) : Calls Tryz.prog 133 #[ftV f fv] w (Ret w (.int .i64 (ftE f))) := by
  obtain ⟨nm, kind, axis, ⟨x, y, z⟩, lo, hi⟩ := f
  simp only at hn
  have HN := Lib.hid (fun W => rname_c nm W hn)
  have HL := Lib.hid (fun W => rlim_c lo hi W)
  have HX := Lib.hid (fun W => rIn_c x W)
  have HY := Lib.hid (fun W => rIn_c y W)
  have HZ := Lib.hid (fun W => rIn_c z W)
  have HPo := inP_eq ⟨x, y, z⟩
  simp only at HPo
  have HP := Lib.hid HPo
  clear HPo
  have hA := below_al w (.cells #[.string ⟨nm.toArray⟩, .int .i64 kind, .int .i64 axis, .int .i64 x, .int .i64 y, .int .i64 z, .int .i64 lo, .int .i64 hi, fv] 28)
  have hr := heap_alloc_new w (.cells #[.string ⟨nm.toArray⟩, .int .i64 kind, .int .i64 axis, .int .i64 x, .int .i64 y, .int .i64 z, .int .i64 lo, .int .i64 hi, fv] 28)
  have hq := fun W => lm_neq lo hi 0 0 W
  obtain ⟨E, hE⟩ : ∃ E, ftE ⟨nm, kind, axis, ⟨x, y, z⟩, lo, hi⟩ = E := ⟨_, rfl⟩
  rw [hE]
  unfold ftE at hE
  simp only at hE
  have HE := Lib.hid hE
  clear hE
  generalize Rg.nameE nm = N at *
  generalize limE lo hi = LE at *
  generalize inP ⟨x, y, z⟩ = IP at *
  generalize inC x = IX at *
  generalize inC y = IY at *
  generalize inC z = IZ at *
  clear hn
  go_enter Tryz.func133, Tryz.ntmps133
  go_wp2_with fail
  generalize w.alloc (.cells #[.string ⟨nm.toArray⟩, .int .i64 kind, .int .i64 axis, .int .i64 x, .int .i64 y, .int .i64 z, .int .i64 lo, .int .i64 hi, fv] 28) = W0 at *
  ((with_reducible refine (HN.out _).mono ?_); rintro e w1 ⟨rfl, rfl⟩)
  have hB1 := hA
  have hr1 := hr
  clear hr hA
  obtain ⟨c0, c1, c2, c3, c4, c5, c6, c7, c8⟩ := c9row hr1
  by_cases hN : N = 0
  rotate_left
  · obtain rfl : N = E := by have := HE.out; rwa [if_pos hN] at this
    have h3 := bne_ne hN
    clear c0 c1 c2 c3 c4 c5 c6 c7 c8 hr1
    go_wp2
    go_ret
    exact ⟨rfl, hB1⟩
  subst hN
  replace HE := HE.out
  rw [if_neg (by simp)] at HE
  by_cases hk : kind < 0 ∨ 5 ≤ kind ∨ axis < 0 ∨ 3 ≤ axis
  · obtain rfl : 1 = E := by rwa [if_pos hk] at HE
    clear HE
    rcases (by omega : kind < 0 ∨ (¬ kind < 0 ∧ 5 ≤ kind) ∨ (¬ kind < 0 ∧ ¬ 5 ≤ kind ∧ axis < 0) ∨ (¬ kind < 0 ∧ ¬ 5 ≤ kind ∧ ¬ axis < 0 ∧ 3 ≤ axis)) with z | ⟨z, z1⟩ | ⟨z, z1, z2⟩ | ⟨z, z1, z2, z3⟩
    all_goals
      clear hk hr1
      go_wp2
      go_ret
      exact ⟨rfl, hB1⟩
  rw [if_neg hk] at HE
  obtain ⟨z0, z1, z2, z3⟩ : ¬ kind < 0 ∧ ¬ 5 ≤ kind ∧ ¬ axis < 0 ∧ ¬ 3 ≤ axis := ⟨by omega, by omega, by omega, by omega⟩
  clear hk
  by_cases h4 : kind = 4 ∧ axis ≠ 0
  · obtain rfl : 3 = E := by rwa [if_pos h4] at HE
    clear HE
    obtain ⟨rfl, h5⟩ := h4
    have h6 := bne_ne h5
    clear hr1
    go_wp2
    go_ret
    exact ⟨rfl, hB1⟩
  rw [if_neg h4] at HE
  replace HE := Lib.hid HE
  have h7 : (kind == 4) = false ∨ ((kind == 4) = true ∧ (axis != 0) = false) := by
    by_cases q : kind = 4
    · right
      exact ⟨by rw [q]; rfl, by
        have : axis = 0 := Classical.byContradiction fun c => h4 ⟨q, c⟩
        rw [this]; rfl⟩
    · left; exact beq_eq_false_iff_ne.2 q
  clear h4
  rcases h7 with h7 | ⟨h7, h8⟩
  all_goals
    cases IX with
    | false =>
      obtain rfl : IP = false := HP.out
      obtain rfl : 2 = E := by have := HE.out; rwa [if_pos rfl] at this
      clear HP
      go_wp2_with fail
      ((with_reducible refine (HX.out _).mono ?_); rintro e w' ⟨rfl, rfl⟩)
      go_wp2
      go_ret
      exact ⟨rfl, hB1⟩
    | true =>
      cases IY with
      | false =>
        obtain rfl : IP = false := HP.out
        obtain rfl : 2 = E := by have := HE.out; rwa [if_pos rfl] at this
        clear HP
        go_wp2_with fail
        ((with_reducible refine (HX.out _).mono ?_); rintro e w' ⟨rfl, rfl⟩)
        go_wp2_with fail
        ((with_reducible refine (HY.out _).mono ?_); rintro e w' ⟨rfl, rfl⟩)
        go_wp2
        go_ret
        exact ⟨rfl, hB1⟩
      | true =>
        cases IZ with
        | false =>
          obtain rfl : IP = false := HP.out
          obtain rfl : 2 = E := by have := HE.out; rwa [if_pos rfl] at this
          clear HP
          go_wp2_with fail
          ((with_reducible refine (HX.out _).mono ?_); rintro e w' ⟨rfl, rfl⟩)
          go_wp2_with fail
          ((with_reducible refine (HY.out _).mono ?_); rintro e w' ⟨rfl, rfl⟩)
          go_wp2_with fail
          ((with_reducible refine (HZ.out _).mono ?_); rintro e w' ⟨rfl, rfl⟩)
          go_wp2
          go_ret
          exact ⟨rfl, hB1⟩
        | true =>
          obtain rfl : IP = true := HP.out
          replace HE := HE.out
          rw [if_neg (by simp)] at HE
          clear HP
          go_wp2_with fail
          ((with_reducible refine (HX.out _).mono ?_); rintro e w' ⟨rfl, rfl⟩)
          go_wp2_with fail
          ((with_reducible refine (HY.out _).mono ?_); rintro e w' ⟨rfl, rfl⟩)
          go_wp2_with fail
          ((with_reducible refine (HZ.out _).mono ?_); rintro e w' ⟨rfl, rfl⟩)
          by_cases hk0 : kind = 0
          · subst hk0
            rw [if_pos rfl] at HE
            by_cases hl : lo = 0 ∧ hi = 0
            · obtain rfl : 0 = E := by rwa [if_pos hl] at HE
              clear HE
              obtain ⟨rfl, rfl⟩ := hl
              go_wp2
              go_ret
              exact ⟨rfl, hB1⟩
            · obtain rfl : 3 = E := by rwa [if_neg hl] at HE
              clear HE
              have hlq : (lo == 0 && hi == 0) = false := by
                rw [Bool.eq_false_iff]; intro c; rw [Bool.and_eq_true, beq_iff_eq, beq_iff_eq] at c; exact hl c
              rw [hlq] at hq
              clear hl
              go_wp2
              go_ret
              exact ⟨rfl, hB1⟩
          rw [if_neg hk0] at HE
          replace HE := Lib.hid HE
          have hk1 : (kind == 0) = false := beq_eq_false_iff_ne.2 hk0
          clear hk0
          go_wp2_with fail
          ((with_reducible refine (HL.out _).mono ?_); rintro e w9 ⟨rfl, hb9⟩)
          have hB9 := hB1.nx hb9
          obtain ⟨d0, d1, d2, d3, d4, d5, d6, d7, d8⟩ := c9row (keepD hr1 hb9)
          clear c0 c1 c2 c3 c4 c5 c6 c7 c8
          by_cases hl : LE = 0
          rotate_left
          · obtain rfl : LE = E := by have := HE.out; rwa [if_pos hl] at this
            have h3 := bne_ne hl
            go_wp2
            go_ret
            exact ⟨rfl, hB9⟩
          subst hl
          replace HE := HE.out
          rw [if_neg (by simp)] at HE
          by_cases hl1 : lo < 1
          · obtain rfl : 2 = E := by rwa [if_pos hl1] at HE
            clear HE
            go_wp2
            go_ret
            exact ⟨rfl, hB9⟩
          · obtain rfl : 0 = E := by rwa [if_neg hl1] at HE
            clear HE
            go_wp2
            go_ret
            exact ⟨rfl, hB9⟩
end Go.Proofs.Wk
/- POSITION: datums and plain frames, in the program and in the reference. -/
namespace Go.Proofs.Wk
open Go.RowKit Mt Po

theorem cond_c (m : Int) (w : World) : Calls Tryz.prog 158 #[.int .i64 m] w (Pur w (.int .i64 (matE m))) := by
  unfold matE
  rcases (by omega : m < 0 ∨ (¬ m < 0 ∧ 3 ≤ m) ∨ (¬ m < 0 ∧ ¬ 3 ≤ m)) with h | ⟨h, h'⟩ | ⟨h, h'⟩
  · rw [if_pos (.inl h)]
    go_enter Tryz.func158, Tryz.ntmps158; go_wp2; go_ret; exact ⟨rfl, rfl⟩
  · rw [if_pos (.inr h')]
    go_enter Tryz.func158, Tryz.ntmps158; go_wp2; go_ret; exact ⟨rfl, rfl⟩
  · rw [if_neg (by omega)]
    go_enter Tryz.func158, Tryz.ntmps158; go_wp2; go_ret; exact ⟨rfl, rfl⟩
theorem rmat_c (m : Int) (w : World) : Calls Tryz.prog 189 #[.int .i64 m] w (Pur w (.int .i64 (matE m))) := by
  unfold matE
  rcases (by omega : m < 0 ∨ (¬ m < 0 ∧ 3 ≤ m) ∨ (¬ m < 0 ∧ ¬ 3 ≤ m)) with h | ⟨h, h'⟩ | ⟨h, h'⟩
  · rw [if_pos (.inl h)]
    go_enter Tryz.func189, Tryz.ntmps189; go_wp2; go_ret; exact ⟨rfl, rfl⟩
  · rw [if_pos (.inr h')]
    go_enter Tryz.func189, Tryz.ntmps189; go_wp2; go_ret; exact ⟨rfl, rfl⟩
  · rw [if_neg (by omega)]
    go_enter Tryz.func189, Tryz.ntmps189; go_wp2; go_ret; exact ⟨rfl, rfl⟩
set_option maxRecDepth 100000 in
theorem dcl1_c (d : Dt) (ab : Nat) (nm : Txt) (w : World) (hc : w.cell? ⟨ab, 0, none⟩ = some (.string ⟨nm.toArray⟩)) :
    Calls Tryz.prog 159 #[.agg #[.string ⟨d.nm.toArray⟩, .int .i64 d.mat], .pointer (some ⟨ab, 0, none⟩)] w (Ret w (.bool (d.nm == nm))) := by
  obtain ⟨a, m⟩ := d
  have hB := below_al w (.cells #[.string ⟨a.toArray⟩, .int .i64 m] 188)
  have hc2 := hc
  rw [← hB.cell (p := ⟨ab, 0, none⟩) (World.block_lt_of_cell? w _ hc)] at hc2
  have hc0 := hc2
  clear hc
  go_enter Tryz.func159, Tryz.ntmps159
  go_wp2
  go_ret
  exact ⟨rfl, hB⟩
set_option maxRecDepth 100000 in
set_option maxHeartbeats 1000000 in
theorem dix1_c {v : Value} (ds : List Dt) (nm : Txt) (ab : Nat) (w : World) (S : SlX w v ds) (hc : w.cell? ⟨ab, 0, none⟩ = some (.string ⟨nm.toArray⟩)) (hln : ds.length ≤ 140737488355328) :
    Calls Tryz.prog 161 #[v, .func (.func 159) #[] #[.pointer (some ⟨ab, 0, none⟩)]] w
      (fun e w' => (∃ i : Int, e = .returned (.int .i64 i) ∧ decide (0 ≤ i) = (ds.any fun y => y.nm == nm)) ∧ Below w.heap.size w w') := by
  refine S.cases _ ?_ ?_
  · rintro a cap rfl rfl
    clear S hc
    go_enter Tryz.func161, Tryz.ntmps161
    go_wp2_with fail
    refine wp_loop_rounds 1 ?_
    rw [rounds_succ]
    go_wp2
    go_ret
    exact ⟨⟨_, rfl, rfl⟩, Below.refl _ _⟩
  rintro b off cap rfl hp hR hb
  have hab : ab < w.heap.size := World.block_lt_of_cell? w _ hc
  have HR := Lib.hid hR
  have HC := Lib.hid hc
  clear S hR hc
  go_enter Tryz.func161, Tryz.ntmps161
  go_wp2_with fail
  go_loopw [8] (fun si wr => ∃ i : Nat, si = .int .i64 (i : Int) ∧ i ≤ ds.length ∧ Hid (∀ j, (q : j < i) → (h : j < ds.length) → (ds[j].nm == nm) = false) ∧ Below w.heap.size w wr) (fun si _ => ds.length - (intOf si).toNat)
  case atStart => exact ⟨0, rfl, Nat.zero_le _, fun j q => absurd q (Nat.not_lt_zero _), Below.refl _ _⟩
  case round =>
    obtain ⟨i, rfl, hi, hE, hB⟩ := hrel
    by_cases hlt : i < ds.length
    · obtain ⟨k0, k1⟩ := (HR.out.later hB hb).dt hlt
      have hcw := hB.cell (p := ⟨ab, 0, none⟩) hab
      rw [HC.out] at hcw
      have HF := Lib.hid (dcl1_c ds[i] ab nm wr hcw)
      have hyes := fun (e : (ds[i].nm == nm) = true) => show (ds.any fun y => y.nm == nm) = true from List.any_eq_true.2 ⟨ds[i], List.getElem_mem hlt, e⟩
      have hno := fun (e : (ds[i].nm == nm) = false) j (q : j < i + 1) (h : j < ds.length) => show (ds[j].nm == nm) = false from by
        by_cases z : j = i
        · subst z; exact e
        · exact hE.out j (by omega) h
      have HY := Lib.hid hyes
      have HNO := Lib.hid hno
      clear hyes hno hcw hE
      generalize hx : ds[i] = x at *
      clear hx
      obtain ⟨a, m⟩ := x
      simp only at k0 k1 HF HY HNO
      cases h : (a == nm) with
      | true =>
        have hL := Lib.hid (HY.out h)
        rw [h] at HF
        clear HY HNO h
        go_wp2_with fail
        ((with_reducible refine (HF.out).mono ?_); rintro e w2 ⟨rfl, hb2⟩)
        have hB2 := hB.trans (hb2.mono hB.size)
        go_wp2
        go_ret
        exact ⟨⟨_, rfl, by rw [hL.out]; exact decide_eq_true (by omega)⟩, hB2⟩
      | false =>
        have hL := Lib.hid (HNO.out h)
        rw [h] at HF
        clear HY HNO h
        go_wp2_with fail
        ((with_reducible refine (HF.out).mono ?_); rintro e w2 ⟨rfl, hb2⟩)
        have hB2 := hB.trans (hb2.mono hB.size)
        go_wp2
        go_roundw
        case rel => exact ⟨i + 1, by go_num, by omega, hL, hB2⟩
        case measure => simp [intOf]; omega
    · have HN := Lib.hid (show (ds.any fun y => y.nm == nm) = false by
        rw [Bool.eq_false_iff]
        intro c
        obtain ⟨y, hy, e⟩ := List.any_eq_true.1 c
        obtain ⟨j, hj, rfl⟩ := List.getElem_of_mem hy
        rw [hE.out j (by omega) hj] at e; cases e)
      clear hE
      go_wp2
      go_ret
      exact ⟨⟨_, rfl, by rw [HN.out]; rfl⟩, hB⟩
set_option maxRecDepth 100000 in
set_option maxHeartbeats 1000000 in
theorem dcf1_c {v : Value} (ds : List Dt) (nm : Txt) (ab : Nat) (w : World) (S : SlX w v ds) (hc : w.cell? ⟨ab, 0, none⟩ = some (.string ⟨nm.toArray⟩)) (hln : ds.length ≤ 140737488355328) :
    Calls Tryz.prog 106 #[v, .func (.func 159) #[] #[.pointer (some ⟨ab, 0, none⟩)]] w (Ret w (.bool (ds.any fun y => y.nm == nm))) := by
  have HX := Lib.hid (dix1_c ds nm ab w S hc hln)
  generalize (ds.any fun y => y.nm == nm) = B at *
  clear S hc hln
  go_enter Tryz.func106, Tryz.ntmps106
  go_wp2_with fail
  ((with_reducible refine (HX.out).mono ?_); rintro e w1 ⟨⟨i, rfl, hi⟩, hb1⟩)
  have HI := Lib.hid hi
  clear hi
  go_wp2
  go_ret
  exact ⟨ret_bool (by rw [← HI.out]), hb1⟩
set_option maxRecDepth 100000 in
theorem dcl2_c (d : Dt) (ab : Nat) (nm : Txt) (w : World) (hc : w.cell? ⟨ab, 0, none⟩ = some (.string ⟨nm.toArray⟩)) :
    Calls Tryz.prog 107 #[.agg #[.string ⟨d.nm.toArray⟩, .int .i64 d.mat], .pointer (some ⟨ab, 0, none⟩)] w (Ret w (.bool (d.nm == nm))) := by
  obtain ⟨a, m⟩ := d
  have hB := below_al w (.cells #[.string ⟨a.toArray⟩, .int .i64 m] 188)
  have hc2 := hc
  rw [← hB.cell (p := ⟨ab, 0, none⟩) (World.block_lt_of_cell? w _ hc)] at hc2
  have hc0 := hc2
  clear hc
  go_enter Tryz.func107, Tryz.ntmps107
  go_wp2
  go_ret
  exact ⟨rfl, hB⟩
set_option maxRecDepth 100000 in
set_option maxHeartbeats 1000000 in
theorem dix2_c {v : Value} (ds : List Dt) (nm : Txt) (ab : Nat) (w : World) (S : SlX w v ds) (hc : w.cell? ⟨ab, 0, none⟩ = some (.string ⟨nm.toArray⟩)) (hln : ds.length ≤ 140737488355328) :
    Calls Tryz.prog 161 #[v, .func (.func 107) #[] #[.pointer (some ⟨ab, 0, none⟩)]] w
      (fun e w' => (∃ i : Int, e = .returned (.int .i64 i) ∧ decide (0 ≤ i) = (ds.any fun y => y.nm == nm)) ∧ Below w.heap.size w w') := by
  refine S.cases _ ?_ ?_
  · rintro a cap rfl rfl
    clear S hc
    go_enter Tryz.func161, Tryz.ntmps161
    go_wp2_with fail
    refine wp_loop_rounds 1 ?_
    rw [rounds_succ]
    go_wp2
    go_ret
    exact ⟨⟨_, rfl, rfl⟩, Below.refl _ _⟩
  rintro b off cap rfl hp hR hb
  have hab : ab < w.heap.size := World.block_lt_of_cell? w _ hc
  have HR := Lib.hid hR
  have HC := Lib.hid hc
  clear S hR hc
  go_enter Tryz.func161, Tryz.ntmps161
  go_wp2_with fail
  go_loopw [8] (fun si wr => ∃ i : Nat, si = .int .i64 (i : Int) ∧ i ≤ ds.length ∧ Hid (∀ j, (q : j < i) → (h : j < ds.length) → (ds[j].nm == nm) = false) ∧ Below w.heap.size w wr) (fun si _ => ds.length - (intOf si).toNat)
  case atStart => exact ⟨0, rfl, Nat.zero_le _, fun j q => absurd q (Nat.not_lt_zero _), Below.refl _ _⟩
  case round =>
    obtain ⟨i, rfl, hi, hE, hB⟩ := hrel
    by_cases hlt : i < ds.length
    · obtain ⟨k0, k1⟩ := (HR.out.later hB hb).dt hlt
      have hcw := hB.cell (p := ⟨ab, 0, none⟩) hab
      rw [HC.out] at hcw
      have HF := Lib.hid (dcl2_c ds[i] ab nm wr hcw)
      have hyes := fun (e : (ds[i].nm == nm) = true) => show (ds.any fun y => y.nm == nm) = true from List.any_eq_true.2 ⟨ds[i], List.getElem_mem hlt, e⟩
      have hno := fun (e : (ds[i].nm == nm) = false) j (q : j < i + 1) (h : j < ds.length) => show (ds[j].nm == nm) = false from by
        by_cases z : j = i
        · subst z; exact e
        · exact hE.out j (by omega) h
      have HY := Lib.hid hyes
      have HNO := Lib.hid hno
      clear hyes hno hcw hE
      generalize hx : ds[i] = x at *
      clear hx
      obtain ⟨a, m⟩ := x
      simp only at k0 k1 HF HY HNO
      cases h : (a == nm) with
      | true =>
        have hL := Lib.hid (HY.out h)
        rw [h] at HF
        clear HY HNO h
        go_wp2_with fail
        ((with_reducible refine (HF.out).mono ?_); rintro e w2 ⟨rfl, hb2⟩)
        have hB2 := hB.trans (hb2.mono hB.size)
        go_wp2
        go_ret
        exact ⟨⟨_, rfl, by rw [hL.out]; exact decide_eq_true (by omega)⟩, hB2⟩
      | false =>
        have hL := Lib.hid (HNO.out h)
        rw [h] at HF
        clear HY HNO h
        go_wp2_with fail
        ((with_reducible refine (HF.out).mono ?_); rintro e w2 ⟨rfl, hb2⟩)
        have hB2 := hB.trans (hb2.mono hB.size)
        go_wp2
        go_roundw
        case rel => exact ⟨i + 1, by go_num, by omega, hL, hB2⟩
        case measure => simp [intOf]; omega
    · have HN := Lib.hid (show (ds.any fun y => y.nm == nm) = false by
        rw [Bool.eq_false_iff]
        intro c
        obtain ⟨y, hy, e⟩ := List.any_eq_true.1 c
        obtain ⟨j, hj, rfl⟩ := List.getElem_of_mem hy
        rw [hE.out j (by omega) hj] at e; cases e)
      clear hE
      go_wp2
      go_ret
      exact ⟨⟨_, rfl, by rw [HN.out]; rfl⟩, hB⟩
set_option maxRecDepth 100000 in
set_option maxHeartbeats 1000000 in
theorem dcf2_c {v : Value} (ds : List Dt) (nm : Txt) (ab : Nat) (w : World) (S : SlX w v ds) (hc : w.cell? ⟨ab, 0, none⟩ = some (.string ⟨nm.toArray⟩)) (hln : ds.length ≤ 140737488355328) :
    Calls Tryz.prog 106 #[v, .func (.func 107) #[] #[.pointer (some ⟨ab, 0, none⟩)]] w (Ret w (.bool (ds.any fun y => y.nm == nm))) := by
  have HX := Lib.hid (dix2_c ds nm ab w S hc hln)
  generalize (ds.any fun y => y.nm == nm) = B at *
  clear S hc hln
  go_enter Tryz.func106, Tryz.ntmps106
  go_wp2_with fail
  ((with_reducible refine (HX.out).mono ?_); rintro e w1 ⟨⟨i, rfl, hi⟩, hb1⟩)
  have HI := Lib.hid hi
  clear hi
  go_wp2
  go_ret
  exact ⟨ret_bool (by rw [← HI.out]), hb1⟩
set_option maxRecDepth 100000 in
set_option maxHeartbeats 16000000 in
theorem plain_c {dv : Value} (x : Fm) (ds : List Dt) (w : World) (D : DtS w dv ds) : Calls Tryz.prog 102 #[frV x dv] w (Ret w (.int .i64 (plE x ds))) := by
  obtain ⟨kind, disc, tol, mat⟩ := x
  have HM := Lib.hid (fun m W => cond_c m W)
  have HN := Lib.hid (fun i (hi : i < ds.length) W => dname_c ds[i].nm W (D.2.2.1 _ (List.getElem_mem hi)))
  have HCF := Lib.hid (fun (v : Value) (i : Nat) (nm : Txt) (ab : Nat) W (S : SlX W v (ds.take i)) (hc : W.cell? ⟨ab, 0, none⟩ = some (.string ⟨nm.toArray⟩)) => dcf1_c (ds.take i) nm ab W S hc (by rw [List.length_take]; have := D.2.1; omega))
  have HST := Lib.hid (fun i (hi : i < ds.length) => dtsE_step hi)
  have HEND := Lib.hid (dtsE_end ds)
  have hsl := D.1
  have hA := below_al w (.cells #[.int .i64 kind, .bool disc, .int .i64 tol, .int .i64 mat, dv] 31)
  have hr := heap_alloc_new w (.cells #[.int .i64 kind, .bool disc, .int .i64 tol, .int .i64 mat, dv] 31)
  obtain ⟨E, hE⟩ : ∃ E, plE ⟨kind, disc, tol, mat⟩ ds = E := ⟨_, rfl⟩
  rw [hE]
  unfold plE at hE
  simp only at hE
  have HE := Lib.hid hE
  clear hE
  obtain ⟨sa, cap, rfl, hcap⟩ := D.form
  clear D
  go_enter Tryz.func102, Tryz.ntmps102
  go_upto_region 1 with fail
  generalize w.alloc (.cells #[.int .i64 kind, .bool disc, .int .i64 tol, .int .i64 mat, .slice sa ds.length cap] 31) = W0 at *
  obtain ⟨c0, c1, c2, c3, c4⟩ := c5row hr
  by_cases hk : kind < 0 ∨ 9 ≤ kind
  · obtain rfl : 1 = E := by have := HE.out; rwa [if_pos hk] at this
    clear HE
    rcases (by omega : kind < 0 ∨ (¬ kind < 0 ∧ 9 ≤ kind)) with z | ⟨z, z1⟩
    all_goals
      clear hk hr
      go_wp2
      go_ret
      exact ⟨rfl, hA⟩
  replace HE := HE.out
  rw [if_neg hk] at HE
  obtain ⟨z0, z1⟩ : ¬ kind < 0 ∧ ¬ 9 ≤ kind := ⟨by omega, by omega⟩
  replace HE := Lib.hid HE
  clear hk
  have HMM := Lib.hid (fun W => HM.out mat W)
  generalize matE mat = ME at *
  go_wp2_with fail
  ((with_reducible refine (HMM.out _).mono ?_); rintro e w1 ⟨rfl, rfl⟩)
  by_cases hm : ME = 0
  rotate_left
  · obtain rfl : ME = E := by have := HE.out; rwa [if_pos hm] at this
    have h3 := bne_ne hm
    go_wp2
    go_ret
    exact ⟨rfl, hA⟩
  subst hm
  replace HE := HE.out
  rw [if_neg (by simp)] at HE
  by_cases ht : tol < 0 ∨ 100000 < tol
  · obtain rfl : 2 = E := by rwa [if_pos ht] at HE
    clear HE
    rcases (by omega : tol < 0 ∨ (¬ tol < 0 ∧ 100000 < tol)) with y | ⟨y, y1⟩
    all_goals
      clear ht hr
      go_wp2
      go_ret
      exact ⟨rfl, hA⟩
  rw [if_neg ht] at HE
  obtain ⟨y0, y1⟩ : ¬ tol < 0 ∧ ¬ 100000 < tol := ⟨by omega, by omega⟩
  clear ht
  by_cases h3 : 3 < ds.length
  · obtain rfl : 5 = E := by rwa [if_pos h3] at HE
    clear HE
    have h4 : (3 : Int) < (ds.length : Int) := by omega
    go_wp2
    go_ret
    exact ⟨rfl, hA⟩
  rw [if_neg h3] at HE
  replace HE := Lib.hid HE
  have h4 : ¬ (3 : Int) < (ds.length : Int) := by omega
  rcases hsl with ⟨a, c, he, rfl⟩ | ⟨b, off, c, he, hR, hb⟩
  · obtain rfl : 0 = E := HE.out
    clear h3 h4 hr HST HEND HN HCF he
    go_wp2_with fail
    refine wp_loop_rounds 1 ?_
    rw [rounds_succ]
    go_wp2
    go_ret
    exact ⟨rfl, hA⟩
  obtain ⟨rfl, -, rfl⟩ : sa = some ⟨b, off, none⟩ ∧ ds.length = ds.length ∧ cap = c := by simpa using he
  clear he
  have HR := Lib.hid (hR.later hA hb)
  have HA := Lib.hid hA
  have HRW := Lib.hid hr
  have hb0 : b < W0.heap.size := Nat.lt_of_lt_of_le hb hA.size
  have hg0 : w.heap.size < W0.heap.size := (Array.getElem?_eq_some_iff.1 hr).1
  clear hr hR hb hA
  go_wp2_with fail
  clear c0 c1 c2 c3 c4
  go_loopw [39] (fun si wr => ∃ i : Nat, si = .int .i64 (i : Int) ∧ i ≤ ds.length ∧ Hid (dtsE (ds.take i) (ds.drop i) = E) ∧ Hid (Below W0.heap.size W0 wr)) (fun si _ => ds.length - (intOf si).toNat)
  case atStart => exact ⟨0, rfl, Nat.zero_le _, HE.out, Below.refl _ _⟩
  case round =>
    obtain ⟨i, rfl, hi, hS, hB⟩ := hrel
    by_cases hlt : i < ds.length
    · obtain ⟨k0, k1⟩ := (HR.out.later hB.out hb0).dt hlt
      have HN1 := Lib.hid (fun W => HN.out i hlt W)
      have hst := HST.out i hlt
      unfold dtE at hst
      rw [hS.out] at hst
      have HST1 := Lib.hid hst
      clear hst hS
      have HC1 := Lib.hid (fun (W : World) (nm : Txt) (ab : Nat) (h : Below W0.heap.size W0 W) (hc : W.cell? ⟨ab, 0, none⟩ = some (.string ⟨nm.toArray⟩)) => HCF.out (.slice (some ⟨b, off, none⟩) i cap) i nm ab W (.inr ⟨b, off, cap, by rw [List.length_take, Nat.min_eq_left (by omega)], (HR.out.later h hb0).take i, Nat.lt_of_lt_of_le hb0 h.size⟩) hc)
      have hic : i ≤ cap := by omega
      generalize ds[i] = d at *
      obtain ⟨nm, m⟩ := d
      simp only at k0 k1 HN1 HST1
      replace HC1 := Lib.hid (fun (W : World) (ab : Nat) (h : Below W0.heap.size W0 W) (hc : W.cell? ⟨ab, 0, none⟩ = some (.string ⟨nm.toArray⟩)) => HC1.out W nm ab h hc)
      generalize (ds.take i).any (fun y => y.nm == nm) = AN at *
      have hal := below_al wr (.cells #[.string ⟨nm.toArray⟩, .int .i64 m] 188)
      have hnew := heap_alloc_new wr (.cells #[.string ⟨nm.toArray⟩, .int .i64 m] 188)
      have HB1 := Lib.hid (hB.out.nx hal)
      go_wp2_with fail
      generalize wr.alloc (.cells #[.string ⟨nm.toArray⟩, .int .i64 m] 188) = W1 at *
      ((with_reducible refine (HN1.out _).mono ?_); rintro e w2 ⟨rfl, hb2⟩)
      have HB2 := Lib.hid (HB1.out.nx hb2)
      have hd2 := keepD hnew hb2
      clear hnew hal hb2 hB k0 k1 HN1 HB1
      generalize Rg.nameE nm = NE at *
      by_cases h5 : NE = 0
      rotate_left
      · have hE := HST1.out
        rw [if_pos h5, if_neg h5] at hE
        subst hE
        have h6 := bne_ne h5
        have hBZ := HA.out.nx HB2.out
        clear HST1 HE HB2
        go_wp2
        go_ret
        exact ⟨rfl, hBZ⟩
      subst h5
      have hE := HST1.out
      rw [if_neg (show ¬ (0 : Int) ≠ 0 from by simp)] at hE
      replace HST1 := Lib.hid hE
      clear hE
      obtain ⟨d0, d1⟩ := c2row hd2
      obtain ⟨x0, x1, x2, x3, x4⟩ := c5row (keepD HRW.out HB2.out)
      have HC2 := Lib.hid (HC1.out w2 wr.heap.size HB2.out d0)
      go_wp2_with fail
      ((with_reducible refine (HC2.out).mono ?_); rintro e w3 ⟨rfl, hb3⟩)
      have HB3 := Lib.hid (HB2.out.nx hb3)
      have hd3 := keepD hd2 hb3
      clear hd2 d0 d1 x0 x1 x2 x3 x4 hb3 HC2
      cases AN with
      | true =>
        have hE := HST1.out
        rw [if_pos rfl, if_neg (by decide)] at hE
        subst hE
        have hBZ := HA.out.nx HB3.out
        clear HST1 HE HB2 HB3 hd3
        go_wp2
        go_ret
        exact ⟨rfl, hBZ⟩
      | false =>
        have hE := HST1.out
        rw [if_neg (show ¬ false = true from by simp)] at hE
        replace HST1 := Lib.hid hE
        clear hE
        obtain ⟨d0, d1⟩ := c2row hd3
        have HM1 := Lib.hid (fun W => HM.out m W)
        generalize matE m = MM at *
        go_wp2_with fail
        ((with_reducible refine (HM1.out _).mono ?_); rintro e w4 ⟨rfl, rfl⟩)
        by_cases h7 : MM = 0
        · subst h7
          have hE := HST1.out
          rw [if_pos rfl] at hE
          replace HST1 := Lib.hid hE.symm
          clear hE hd3 d0 d1
          go_wp2
          go_roundw
          case rel => exact ⟨i + 1, by go_num, by omega, HST1.out, HB3.out⟩
          case measure => simp [intOf]; omega
        · have hE := HST1.out
          rw [if_neg h7] at hE
          subst hE
          have h8 := bne_ne h7
          have hBZ := HA.out.nx HB3.out
          clear HST1 HE HB2 HB3 hd3 d0 d1
          go_wp2
          go_ret
          exact ⟨rfl, hBZ⟩
    · obtain rfl : i = ds.length := by omega
      obtain rfl : 0 = E := by have := hS.out; rw [HEND.out] at this; exact this
      have hB2 := HA.out.nx hB.out
      clear hS HE
      go_wp2
      go_ret
      exact ⟨rfl, hB2⟩
end Go.Proofs.Wk
/- POSITION: datums and plain frames in the reference. -/
namespace Go.Proofs.Wk
open Go.RowKit Mt Po

def dA (ds : List Dt) (k : Nat) : Dt := ds.getD k ⟨[], 0⟩
theorem dA_get {ds : List Dt} {k : Nat} (h : k < ds.length) : dA ds k = ds[k] := by unfold dA; rw [List.getD_eq_getElem?_getD, List.getElem?_eq_getElem h]; rfl
theorem RX.dA {w : World} {b off : Nat} {ls : List Dt} (h : RX w b off ls) {i : Nat} (hi : i < ls.length) :
    w.cell? ⟨b, off + i * 2, none⟩ = some (.string ⟨(dA ls i).nm.toArray⟩) ∧ w.cell? ⟨b, off + i * 2 + 1, none⟩ = some (.int .i64 (dA ls i).mat) := by
  rw [dA_get hi]; exact h.dt hi
theorem any_yes {ds : List Dt} {i j : Nat} (hi : i < ds.length) (hj : j < i) {nm : Txt} (h : ((dA ds j).nm == nm) = true) : ((ds.take i).any fun y => y.nm == nm) = true := by
  refine List.any_eq_true.2 ⟨ds[j], ?_, by rw [← dA_get (by omega)]; exact h⟩
  rw [List.mem_take_iff_getElem]
  exact ⟨j, by omega, rfl⟩
theorem any_no {ds : List Dt} {i : Nat} (hi : i < ds.length) {nm : Txt} (h : ∀ j, j < i → ((dA ds j).nm == nm) = false) : ((ds.take i).any fun y => y.nm == nm) = false := by
  rw [Bool.eq_false_iff]
  intro c
  obtain ⟨y, hy, e⟩ := List.any_eq_true.1 c
  obtain ⟨j, hj, rfl⟩ := List.mem_take_iff_getElem.1 hy
  have := h j (by omega)
  rw [dA_get (by omega), e] at this; cases this
set_option maxRecDepth 100000 in
set_option maxHeartbeats 4000000 in
theorem rdats_c {dv : Value} (ds : List Dt) (w : World) (D : DtS w dv ds) : Calls Tryz.prog 190 #[dv] w (Ret w (.int .i64 (if 3 < ds.length then 5 else dtsE [] ds))) := by
  have HM := Lib.hid (fun m W => rmat_c m W)
  have HN := Lib.hid (fun i (hi : i < ds.length) W => rname_c (dA ds i).nm W (by rw [dA_get hi]; exact D.2.2.1 _ (List.getElem_mem hi)))
  have HST := Lib.hid (fun i (hi : i < ds.length) => show dtsE (ds.take i) (ds.drop i) = if dtE (ds.take i) (dA ds i) = 0 then dtsE (ds.take (i + 1)) (ds.drop (i + 1)) else dtE (ds.take i) (dA ds i) by rw [dA_get hi]; exact dtsE_step hi)
  have HEND := Lib.hid (dtsE_end ds)
  have HY := Lib.hid (fun i (hi : i < ds.length) j (hj : j < i) (nm : Txt) => any_yes hi hj (nm := nm))
  have HNO := Lib.hid (fun i (hi : i < ds.length) (nm : Txt) => any_no hi (nm := nm))
  have hsl := D.1
  obtain ⟨sa, cap, rfl, -⟩ := D.form
  clear D
  by_cases h3 : 3 < ds.length
  · rw [if_pos h3]
    have h4 : (3 : Int) < (ds.length : Int) := by omega
    go_enter Tryz.func190, Tryz.ntmps190
    go_wp2
    go_ret
    exact ⟨rfl, Below.refl _ _⟩
  rw [if_neg h3]
  have h4 : ¬ (3 : Int) < (ds.length : Int) := by omega
  rcases hsl with ⟨a, c, he, rfl⟩ | ⟨b, off, c, he, hR, hb⟩
  · clear h3 h4 HST HEND HN he HY HNO
    go_enter Tryz.func190, Tryz.ntmps190
    go_wp2_with fail
    refine wp_loop_rounds 1 ?_
    rw [rounds_succ]
    go_wp2
    go_ret
    exact ⟨rfl, Below.refl _ _⟩
  obtain ⟨rfl, -, rfl⟩ : sa = some ⟨b, off, none⟩ ∧ ds.length = ds.length ∧ cap = c := by simpa using he
  clear he
  have HR := Lib.hid (fun (W : World) (h : Below w.heap.size w W) (k : Nat) (hk : k < ds.length) => (hR.later h hb).dA hk)
  clear hR hb
  obtain ⟨E, hE⟩ : ∃ E, dtsE [] ds = E := ⟨_, rfl⟩
  rw [hE]
  have HE := Lib.hid hE
  clear hE
  generalize hn : ds.length = n at *
  clear hn h3
  go_enter Tryz.func190, Tryz.ntmps190
  go_wp2_with fail
  go_loopw [3] (fun si wr => ∃ i : Nat, si = .int .i64 (i : Int) ∧ i ≤ n ∧ Hid (dtsE (ds.take i) (ds.drop i) = E) ∧ Hid (Below w.heap.size w wr)) (fun si _ => n - (intOf si).toNat)
  case atStart => exact ⟨0, rfl, Nat.zero_le _, HE.out, Below.refl _ _⟩
  case round =>
    obtain ⟨i, rfl, hi, hS, hB⟩ := hrel
    by_cases hlt : i < n
    · obtain ⟨k0, k1⟩ := HR.out _ hB.out i hlt
      have HN1 := Lib.hid (fun W => HN.out i hlt W)
      have HY1 := Lib.hid (fun j (hj : j < i) => HY.out i hlt j hj (dA ds i).nm)
      have HNO1 := Lib.hid (HNO.out i hlt (dA ds i).nm)
      have HRI := Lib.hid (fun W (h : Below w.heap.size w W) => HR.out W h i hlt)
      have HRJ := Lib.hid (fun W (h : Below w.heap.size w W) j (hj : j < i) => (HR.out W h j (by omega)).1)
      have hst := HST.out i hlt
      unfold dtE at hst
      rw [hS.out] at hst
      have HST1 := Lib.hid hst
      clear hst hS
      generalize hd : dA ds i = d at *
      clear hd
      generalize dA ds = dF at *
      obtain ⟨nm, m⟩ := d
      simp only at k0 k1 HN1 HST1 HY1 HNO1 HRI
      generalize (ds.take i).any (fun y => y.nm == nm) = AN at *
      generalize Rg.nameE nm = NE at *
      go_wp2_with fail
      ((with_reducible refine (HN1.out _).mono ?_); rintro e w2 ⟨rfl, rfl⟩)
      clear k0 k1
      by_cases h5 : NE = 0
      rotate_left
      · have hE := HST1.out
        rw [if_pos h5, if_neg h5] at hE
        subst hE
        have h6 := bne_ne h5
        have hBZ := hB.out
        clear HST1 HE hB
        go_wp2
        go_ret
        exact ⟨rfl, hBZ⟩
      subst h5
      have hE := HST1.out
      rw [if_neg (show ¬ (0 : Int) ≠ 0 from by simp)] at hE
      replace HST1 := Lib.hid hE
      clear hE
      go_wp2_with fail
      go_loopw [5] (fun sj wj => ∃ j : Nat, sj = .int .i64 (j : Int) ∧ j ≤ i ∧ Hid (∀ k, k < j → ((dF k).nm == nm) = false) ∧ Hid (Below w.heap.size w wj)) (fun sj _ => i - (intOf sj).toNat)
      case atStart => exact ⟨0, rfl, Nat.zero_le _, fun k hk => absurd hk (Nat.not_lt_zero _), hB.out⟩
      case round =>
        obtain ⟨j, rfl, hj, hK, hBj⟩ := hrel
        by_cases hjl : j < i
        · obtain ⟨k0, k1⟩ := HRI.out _ hBj.out
          have k2 := HRJ.out _ hBj.out j hjl
          have HY2 := Lib.hid (HY1.out j hjl)
          have HKN := Lib.hid (fun (e : ((dF j).nm == nm) = false) (k : Nat) (hk : k < j + 1) => show ((dF k).nm == nm) = false from by
            by_cases q : k = j
            · subst q; exact e
            · exact hK.out k (by omega))
          generalize (dF j).nm = nj at *
          have hln : (j : Int) < (n : Int) := by omega
          cases hq : (nj == nm) with
          | true =>
            obtain rfl : AN = true := HY2.out hq
            have hE := HST1.out
            rw [if_pos rfl, if_neg (by decide)] at hE
            subst hE
            clear HST1 HE HY2 HKN hK
            go_wp2_with fail
            go_quiet (fail)
            go_wp2
            go_ret
            exact ⟨rfl, ⟨hBj.out.os, hBj.out.tape, hBj.out.output, hBj.out.size, hBj.out.block⟩⟩
          | false =>
            have HK2 := Lib.hid (HKN.out hq)
            clear HY2 HKN hK
            go_wp2_with fail
            go_quiet (fail)
            go_wp2
            go_roundw
            case rel => exact ⟨j + 1, by go_num, by omega, HK2.out, ⟨hBj.out.os, hBj.out.tape, hBj.out.output, hBj.out.size, hBj.out.block⟩⟩
            case measure => simp [intOf]; omega
        · obtain rfl : j = i := by omega
          obtain rfl : AN = false := HNO1.out hK.out
          obtain ⟨k0, k1⟩ := HRI.out _ hBj.out
          have hE := HST1.out
          rw [if_neg (show ¬ false = true from by simp)] at hE
          replace HST1 := Lib.hid hE
          clear hE hK
          have HM1 := Lib.hid (fun W => HM.out m W)
          generalize matE m = MM at *
          go_wp2_with fail
          ((with_reducible refine (HM1.out _).mono ?_); rintro e w4 ⟨rfl, rfl⟩)
          clear k0 k1
          by_cases h7 : MM = 0
          · subst h7
            have hE := HST1.out
            rw [if_pos rfl] at hE
            replace HST1 := Lib.hid hE.symm
            clear hE
            go_wp2
            go_roundw
            case rel => exact ⟨j + 1, by go_num, by omega, HST1.out, hBj.out⟩
            case measure => simp [intOf]; omega
          · have hE := HST1.out
            rw [if_neg h7] at hE
            subst hE
            have h8 := bne_ne h7
            have hBZ := hBj.out
            clear HST1 HE hBj
            go_wp2
            go_ret
            exact ⟨rfl, hBZ⟩
    · obtain rfl : i = n := by omega
      have hBZ := hB.out
      obtain rfl : 0 = E := by have := hS.out; rw [HEND.out] at this; exact this
      clear hS HE
      go_wp2
      go_ret
      exact ⟨rfl, hBZ⟩
set_option maxRecDepth 100000 in
set_option maxHeartbeats 16000000 in
theorem rplain_c {dv : Value} (x : Fm) (ds : List Dt) (w : World) (D : DtS w dv ds) : Calls Tryz.prog 134 #[frV x dv] w (Ret w (.int .i64 (plE x ds))) := by
  obtain ⟨kind, disc, tol, mat⟩ := x
  have HM := Lib.hid (fun m W => rmat_c m W)
  have HDT := Lib.hid (fun W (h : Below w.heap.size w W) => rdats_c ds W (D.later h))
  have hA := below_al w (.cells #[.int .i64 kind, .bool disc, .int .i64 tol, .int .i64 mat, dv] 31)
  have hr := heap_alloc_new w (.cells #[.int .i64 kind, .bool disc, .int .i64 tol, .int .i64 mat, dv] 31)
  obtain ⟨E, hE⟩ : ∃ E, plE ⟨kind, disc, tol, mat⟩ ds = E := ⟨_, rfl⟩
  rw [hE]
  unfold plE at hE
  simp only at hE
  have HE := Lib.hid hE
  clear hE
  obtain ⟨sa, cap, rfl, -⟩ := D.form
  clear D
  go_enter Tryz.func134, Tryz.ntmps134
  go_upto_region 1 with fail
  generalize w.alloc (.cells #[.int .i64 kind, .bool disc, .int .i64 tol, .int .i64 mat, .slice sa ds.length cap] 31) = W0 at *
  obtain ⟨c0, c1, c2, c3, c4⟩ := c5row hr
  by_cases hk : kind < 0 ∨ 9 ≤ kind
  · obtain rfl : 1 = E := by have := HE.out; rwa [if_pos hk] at this
    clear HE
    rcases (by omega : kind < 0 ∨ (¬ kind < 0 ∧ 9 ≤ kind)) with z | ⟨z, z1⟩
    all_goals
      clear hk hr
      go_wp2
      go_ret
      exact ⟨rfl, hA⟩
  replace HE := HE.out
  rw [if_neg hk] at HE
  obtain ⟨z0, z1⟩ : ¬ kind < 0 ∧ ¬ 9 ≤ kind := ⟨by omega, by omega⟩
  replace HE := Lib.hid HE
  clear hk
  have HMM := Lib.hid (fun W => HM.out mat W)
  generalize matE mat = ME at *
  go_wp2_with fail
  ((with_reducible refine (HMM.out _).mono ?_); rintro e w1 ⟨rfl, rfl⟩)
  by_cases hm : ME = 0
  rotate_left
  · obtain rfl : ME = E := by have := HE.out; rwa [if_pos hm] at this
    have h3 := bne_ne hm
    go_wp2
    go_ret
    exact ⟨rfl, hA⟩
  subst hm
  replace HE := HE.out
  rw [if_neg (by simp)] at HE
  by_cases ht : tol < 0 ∨ 100000 < tol
  · obtain rfl : 2 = E := by rwa [if_pos ht] at HE
    clear HE
    rcases (by omega : tol < 0 ∨ (¬ tol < 0 ∧ 100000 < tol)) with y | ⟨y, y1⟩
    all_goals
      clear ht hr
      go_wp2
      go_ret
      exact ⟨rfl, hA⟩
  rw [if_neg ht] at HE
  obtain ⟨y0, y1⟩ : ¬ tol < 0 ∧ ¬ 100000 < tol := ⟨by omega, by omega⟩
  clear ht
  have HDT2 := HDT.out
  rw [HE] at HDT2
  replace HDT := Lib.hid HDT2
  clear HDT2 HE
  go_wp2_with fail
  ((with_reducible refine (HDT.out _ hA).mono ?_); rintro e w2 ⟨rfl, hb2⟩)
  have hBZ := hA.nx hb2
  clear c0 c1 c2 c3 c4 hr
  go_wp2
  go_ret
  exact ⟨rfl, hBZ⟩
end Go.Proofs.Wk
