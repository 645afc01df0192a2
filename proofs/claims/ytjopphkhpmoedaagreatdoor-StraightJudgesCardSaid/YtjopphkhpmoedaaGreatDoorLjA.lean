/- STRAIGHTNESS: the reference's Reject, and the law of it, walked. -/
import Derived.Test.YtjopphkhpmoedaaGreatDoorScK
namespace Go.Proofs.Wk
open Go.RowKit Mt

set_option maxRecDepth 100000 in
set_option maxHeartbeats 4000000 in
theorem rReject_c {v : Value} (ls : List St.Pt) (t : Int) (w : World) (S : SlX w v ls) (hln : ls.length ≤ 140737488355328) : Calls Tryz.prog 15 #[v, .int .i64 t] w (RejR w (rejE ls t)) := by
  have HGV := Lib.hid (rGiven_c ls w S hln)
  have HTL := Lib.hid (fun W => rTol_c t W)
  obtain ⟨sa, cap, hv⟩ := S.len
  by_cases h0 : St.givP ls = 0
  rotate_left
  · rw [rejE_bad h0]
    generalize St.givP ls = E at *
    have z : (E != 0) = true := bne_iff_ne.2 h0
    subst hv
    clear h0 S
    go_enter Tryz.func15, Tryz.ntmps15
    go_wp2_with fail
    ((with_reducible refine (HGV.out).mono ?_); rintro e w1 ⟨rfl, hb1⟩)
    go_wp2
    go_ret2
    exact ⟨_, rfl, .inl ⟨none, 0, rfl, rfl⟩, hb1⟩
  obtain ⟨i1, i2, i3⟩ := St.givP_in h0
  by_cases ht : 0 ≤ t ∧ t ≤ 100000
  rotate_left
  · rw [rejE_out h0 ht]
    rw [h0] at HGV
    rw [decide_eq_false ht] at HTL
    subst hv
    clear h0 S ht
    go_enter Tryz.func15, Tryz.ntmps15
    go_wp2_with fail
    ((with_reducible refine (HGV.out).mono ?_); rintro e w1 ⟨rfl, hb1⟩)
    go_wp2_with fail
    ((with_reducible refine (HTL.out _).mono ?_); rintro e w' ⟨rfl, rfl⟩)
    go_wp2
    go_ret2
    exact ⟨_, rfl, .inl ⟨none, 0, rfl, rfl⟩, hb1⟩
  by_cases hl : ls.length ≤ 10
  · rw [rejE_ok h0 ht hl]
    rw [h0] at HGV
    have hbd := fun W (h : Below w.heap.size w W) => Bad_c ls t W (S.later h) i3 i1 hl ht
    rw [decide_eq_true ht] at HTL
    have HBD := Lib.hid hbd
    have z1 : ¬ (10 : Int) < (ls.length : Int) := by omega
    subst hv
    clear h0 S ht hl hbd
    go_enter Tryz.func15, Tryz.ntmps15
    go_wp2_with fail
    ((with_reducible refine (HGV.out).mono ?_); rintro e w1 ⟨rfl, hb1⟩)
    go_wp2_with fail
    ((with_reducible refine (HTL.out _).mono ?_); rintro e w' ⟨rfl, rfl⟩)
    go_wp2_with fail
    ((with_reducible refine (HBD.out _ hb1).mono ?_); rintro e w2 ⟨u, rfl, hS, hb2⟩)
    have HS := Lib.hid hS
    have hB2 := hb1.nx hb2
    clear hS
    go_wp2
    go_ret2
    exact ⟨_, rfl, HS.out, hB2⟩
  · rw [rejE_long h0 ht hl]
    rw [h0] at HGV
    rw [decide_eq_true ht] at HTL
    have z1 : (10 : Int) < (ls.length : Int) := by omega
    subst hv
    clear h0 S ht hl
    go_enter Tryz.func15, Tryz.ntmps15
    go_wp2_with fail
    ((with_reducible refine (HGV.out).mono ?_); rintro e w1 ⟨rfl, hb1⟩)
    go_wp2_with fail
    ((with_reducible refine (HTL.out _).mono ?_); rintro e w' ⟨rfl, rfl⟩)
    go_wp2
    go_ret2
    exact ⟨_, rfl, .inl ⟨none, 0, rfl, rfl⟩, hb1⟩
theorem rejE_len (ls : List St.Pt) (t : Int) : (rejE ls t).1.length ≤ 1000 := by
  by_cases h0 : St.givP ls = 0
  · by_cases ht : 0 ≤ t ∧ t ≤ 100000
    · by_cases hl : ls.length ≤ 10
      · rw [rejE_ok h0 ht hl]
        show ((St.rej ls t).getD []).length ≤ 1000
        cases q : St.rej ls t with
        | none => simp
        | some x =>
          have := (St.rej_some q).2.1
          simp only [Option.getD_some]; omega
      · rw [rejE_long h0 ht hl]; simp
    · rw [rejE_out h0 ht]; simp
  · rw [rejE_bad h0]; simp
set_option maxRecDepth 100000 in
set_option maxHeartbeats 4000000 in
theorem judges_c {v : Value} (ls : List St.Pt) (t : Int) (w : World) (hg : Good w) (S : SlX w v ls) (hln : ls.length ≤ 140737488355328) : Calls Tryz.prog 3 #[v, .int .i64 t] w (Ret w (.bool true)) := by
  have HAW := Lib.hid (fun W (h : Below w.heap.size w W) => awake_c W (hg.later h))
  have HW1 := Lib.hid (fun W (h : Below w.heap.size w W) => Within_c ls t W (hg.later h) (S.later h) hln)
  have HW2 := Lib.hid (fun W (h : Below w.heap.size w W) => rWithin_c ls t W (S.later h) hln)
  have HR1 := Lib.hid (fun W (h : Below w.heap.size w W) => Reject_c ls t W (hg.later h) (S.later h) hln)
  have HR2 := Lib.hid (fun W (h : Below w.heap.size w W) => rReject_c ls t W (S.later h) hln)
  have HSI := Lib.hid (fun u1 u2 W (T : SlX W u1 (rejE ls t).1) (U : SlX W u2 (rejE ls t).1) => by have := rSameInts_c (rejE ls t).1 (rejE ls t).1 W T U (rejE_len ls t) (rejE_len ls t); rwa [decide_eq_true rfl] at this)
  obtain ⟨sa, cap, rfl⟩ := S.len
  generalize withE ls t = y at *
  obtain ⟨yb, ye⟩ := y
  generalize rejE ls t = z at *
  obtain ⟨zl, ze⟩ := z
  clear S hg hln
  generalize ls.length = n at *
  rcases (by omega : n ≤ 7 ∨ (7 < n ∧ n ≤ 10) ∨ (10 < n ∧ n ≤ 12) ∨ (12 < n ∧ n ≤ 64) ∨ (64 < n ∧ n ≤ 128) ∨ 128 < n) with h | ⟨h, h'⟩ | ⟨h, h'⟩ | ⟨h, h'⟩ | ⟨h, h'⟩ | h
  · have q7 : ¬ (7 : Int) < (n : Int) := by omega
    have q10 : ¬ (10 : Int) < (n : Int) := by omega
    have q12 : (n : Int) ≤ 12 := by omega
    have q64 : (n : Int) ≤ 64 := by omega
    have q128 : ¬ (128 : Int) < (n : Int) := by omega
    clear h
    go_enter Tryz.func3, Tryz.ntmps3
    go_wp2_with fail
    ((with_reducible refine (HW1.out _ (Below.refl _ _)).mono ?_); rintro e w1 ⟨rfl, hB1⟩)
    go_wp2_with fail
    ((with_reducible refine (HW2.out _ hB1).mono ?_); rintro e w2 ⟨rfl, hb2⟩)
    have hB2 := hB1.nx hb2
    go_wp2_with fail
    ((with_reducible refine (HR1.out _ hB2).mono ?_); rintro e w3 ⟨u1, rfl, hS1, hb3⟩)
    have hB3 := hB2.nx hb3
    go_wp2_with fail
    ((with_reducible refine (HR2.out _ hB3).mono ?_); rintro e w4 ⟨u2, rfl, hS2, hb4⟩)
    have hB4 := hB3.nx hb4
    have T1 := Lib.hid (hS1.later hb4)
    have T2 := Lib.hid hS2
    clear hS1 hS2 hb2 hb3 hb4 hB1 hB2 hB3
    go_wp2_with fail
    ((with_reducible refine (HAW.out _ hB4).mono ?_); rintro e w5 ⟨rfl, hb5⟩)
    have hB5 := hB4.nx hb5
    go_wp2_with fail
    ((with_reducible refine (HSI.out _ _ _ (T1.out.later hb5) (T2.out.later hb5)).mono ?_); rintro e w6 ⟨rfl, hb6⟩)
    have hB6 := hB5.nx hb6
    go_wp2
    go_ret
    exact ⟨ret_bool (by simp), hB6⟩
  · have q7 : (7 : Int) < (n : Int) := by omega
    have q10 : ¬ (10 : Int) < (n : Int) := by omega
    have q12 : (n : Int) ≤ 12 := by omega
    have q64 : (n : Int) ≤ 64 := by omega
    have q128 : ¬ (128 : Int) < (n : Int) := by omega
    clear h h'
    go_enter Tryz.func3, Tryz.ntmps3
    go_wp2_with fail
    ((with_reducible refine (HAW.out _ (Below.refl _ _)).mono ?_); rintro e w1 ⟨rfl, hb1⟩)
    go_wp2
    go_ret
    exact ⟨rfl, hb1⟩
  · have q7 : (7 : Int) < (n : Int) := by omega
    have q10 : (10 : Int) < (n : Int) := by omega
    have q12 : (n : Int) ≤ 12 := by omega
    have q64 : (n : Int) ≤ 64 := by omega
    have q128 : ¬ (128 : Int) < (n : Int) := by omega
    clear h h'
    go_enter Tryz.func3, Tryz.ntmps3
    go_wp2_with fail
    ((with_reducible refine (HW1.out _ (Below.refl _ _)).mono ?_); rintro e w1 ⟨rfl, hB1⟩)
    go_wp2_with fail
    ((with_reducible refine (HW2.out _ hB1).mono ?_); rintro e w2 ⟨rfl, hb2⟩)
    have hB2 := hB1.nx hb2
    go_wp2_with fail
    ((with_reducible refine (HR1.out _ hB2).mono ?_); rintro e w3 ⟨u1, rfl, hS1, hb3⟩)
    have hB3 := hB2.nx hb3
    go_wp2_with fail
    ((with_reducible refine (HR2.out _ hB3).mono ?_); rintro e w4 ⟨u2, rfl, hS2, hb4⟩)
    have hB4 := hB3.nx hb4
    have T1 := Lib.hid (hS1.later hb4)
    have T2 := Lib.hid hS2
    clear hS1 hS2 hb2 hb3 hb4 hB1 hB2 hB3
    go_wp2_with fail
    ((with_reducible refine (HAW.out _ hB4).mono ?_); rintro e w5 ⟨rfl, hb5⟩)
    have hB5 := hB4.nx hb5
    go_wp2_with fail
    ((with_reducible refine (HSI.out _ _ _ (T1.out.later hb5) (T2.out.later hb5)).mono ?_); rintro e w6 ⟨rfl, hb6⟩)
    have hB6 := hB5.nx hb6
    go_wp2
    go_ret
    exact ⟨ret_bool (by simp), hB6⟩
  · have q7 : (7 : Int) < (n : Int) := by omega
    have q10 : (10 : Int) < (n : Int) := by omega
    have q12 : ¬ (n : Int) ≤ 12 := by omega
    have q64 : (n : Int) ≤ 64 := by omega
    have q128 : ¬ (128 : Int) < (n : Int) := by omega
    clear h h'
    go_enter Tryz.func3, Tryz.ntmps3
    go_wp2_with fail
    ((with_reducible refine (HAW.out _ (Below.refl _ _)).mono ?_); rintro e w1 ⟨rfl, hb1⟩)
    go_wp2
    go_ret
    exact ⟨rfl, hb1⟩
  · have q7 : (7 : Int) < (n : Int) := by omega
    have q10 : (10 : Int) < (n : Int) := by omega
    have q12 : ¬ (n : Int) ≤ 12 := by omega
    have q64 : ¬ (n : Int) ≤ 64 := by omega
    have q128 : ¬ (128 : Int) < (n : Int) := by omega
    clear h h'
    go_enter Tryz.func3, Tryz.ntmps3
    go_wp2_with fail
    ((with_reducible refine (HW1.out _ (Below.refl _ _)).mono ?_); rintro e w1 ⟨rfl, hB1⟩)
    go_wp2_with fail
    ((with_reducible refine (HW2.out _ hB1).mono ?_); rintro e w2 ⟨rfl, hb2⟩)
    have hB2 := hB1.nx hb2
    go_wp2_with fail
    ((with_reducible refine (HR1.out _ hB2).mono ?_); rintro e w3 ⟨u1, rfl, hS1, hb3⟩)
    have hB3 := hB2.nx hb3
    go_wp2_with fail
    ((with_reducible refine (HR2.out _ hB3).mono ?_); rintro e w4 ⟨u2, rfl, hS2, hb4⟩)
    have hB4 := hB3.nx hb4
    have T1 := Lib.hid (hS1.later hb4)
    have T2 := Lib.hid hS2
    clear hS1 hS2 hb2 hb3 hb4 hB1 hB2 hB3
    go_wp2_with fail
    ((with_reducible refine (HAW.out _ hB4).mono ?_); rintro e w5 ⟨rfl, hb5⟩)
    have hB5 := hB4.nx hb5
    go_wp2_with fail
    ((with_reducible refine (HSI.out _ _ _ (T1.out.later hb5) (T2.out.later hb5)).mono ?_); rintro e w6 ⟨rfl, hb6⟩)
    have hB6 := hB5.nx hb6
    go_wp2
    go_ret
    exact ⟨ret_bool (by simp), hB6⟩
  · have q7 : (7 : Int) < (n : Int) := by omega
    have q10 : (10 : Int) < (n : Int) := by omega
    have q12 : ¬ (n : Int) ≤ 12 := by omega
    have q64 : ¬ (n : Int) ≤ 64 := by omega
    have q128 : (128 : Int) < (n : Int) := by omega
    clear h
    go_enter Tryz.func3, Tryz.ntmps3
    go_wp2_with fail
    ((with_reducible refine (HAW.out _ (Below.refl _ _)).mono ?_); rintro e w1 ⟨rfl, hb1⟩)
    go_wp2
    go_ret
    exact ⟨rfl, hb1⟩
end Go.Proofs.Wk
