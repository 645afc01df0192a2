/- REGISTERS OF LOTS: the reference's Done, Do, All. -/
import Derived.Test.YtnhegeifcneiaaaGreatDoorRhQ
import Derived.Test.YtnhegeifcneiaaaGreatDoorKF
import Derived.Test.YtnhegeifcneiaaaGreatDoorKD
import Derived.Test.YtnhegeifcneiaaaGreatDoorKG
namespace Go.Proofs.Wk
open Go.RowKit Mt

set_option maxRecDepth 100000 in
set_option maxHeartbeats 1000000 in
theorem rDone_c {v : Value} (ls : List Rg.Lt) (x : Rg.En) (w : World) (S : SlX w v ls) (hl : Rg.chkE ls = 0) (hx : Rg.rightE x = 0) : Calls Tryz.prog 103 #[v, entV x] w (DoneP w (Rg.doneL ls x)) := by
  by_cases h0 : x.k = 0
  · obtain ⟨k, lot, n⟩ := x
    simp only at h0
    subst h0
    have HB := Lib.hid (fun W S => begun_c (v := v) ls lot n W S hl)
    have J := BX.new w #[.int .i64 0, .string ⟨lot.toArray⟩, .int .i64 n] 30
    have HS := Lib.hid S
    generalize Rg.doneL ls ⟨0, lot, n⟩ = D at *
    clear hl hx S
    go_enter Tryz.func103, Tryz.ntmps103
    go_wp2_with fail
    ((with_reducible refine (HB.out _ (HS.out.later J.w)).mono ?_); rintro e w3 ⟨v3, rfl, hO, hb3⟩)
    have J3 := J.later hb3
    have HO := Lib.hid hO
    clear hO hb3
    go_wp2
    go_ret2
    exact ⟨_, rfl, HO.out, J3.w⟩
  · obtain ⟨k, lot, n⟩ := x
    exact rDone_old ls k lot n w S hl h0 hx
set_option maxRecDepth 100000 in
set_option maxHeartbeats 1000000 in
theorem rDo_c {v : Value} (ls : List Rg.Lt) (x : Rg.En) (w : World) (S : SlX w v ls) (hn : ∀ x ∈ ls, x.nm.length ≤ 140737488355328) (hl : x.lot.length ≤ 140737488355328) : Calls Tryz.prog 80 #[v, entV x] w (DoneP w (Rg.doL ls x)) := by
  have HC := Lib.hid (fun W S => rCheck_g (v := v) ls W S hn)
  have HR := Lib.hid (fun W => rRight_g x W hl)
  have HD := Lib.hid (fun W S hl hx => rDone_c (v := v) ls x W S hl hx)
  have HS := Lib.hid S
  have hD : Rg.doL ls x = if Rg.chkE ls ≠ 0 then ([], Rg.chkE ls) else if Rg.rightE x ≠ 0 then ([], Rg.rightE x) else Rg.doneL ls x := rfl
  have J := BX.new w #[.int .i64 x.k, .string ⟨x.lot.toArray⟩, .int .i64 x.n] 30
  obtain ⟨k, lot, n⟩ := x
  generalize Rg.chkE ls = c at *
  generalize Rg.rightE ⟨k, lot, n⟩ = r at *
  generalize Rg.doneL ls ⟨k, lot, n⟩ = D0 at *
  generalize Rg.doL ls ⟨k, lot, n⟩ = D at *
  simp only at J
  have HE := Lib.hid hD
  clear hD S hn hl
  by_cases hc : c = 0
  rotate_left
  · obtain rfl : D = ([], c) := by rw [HE.out, if_pos hc]
    have y1 : (c != 0) = true := bne_iff_ne.2 hc
    clear HE HD HR hc
    go_enter Tryz.func80, Tryz.ntmps80
    go_wp2_with fail
    ((with_reducible refine (HC.out _ (HS.out.later J.w)).mono ?_); rintro e w1 ⟨rfl, hb1⟩)
    have J1 := J.later hb1
    go_wp2
    go_ret2
    exact ⟨_, rfl, .inl ⟨none, 0, rfl, rfl⟩, J1.w⟩
  subst hc
  have hE2 := HE.out
  rw [if_neg (by simp)] at hE2
  by_cases hr : r = 0
  rotate_left
  · obtain rfl : D = ([], r) := by rw [hE2, if_pos hr]
    have y1 : (r != 0) = true := bne_iff_ne.2 hr
    clear HE HD hr hE2
    go_enter Tryz.func80, Tryz.ntmps80
    go_wp2_with fail
    ((with_reducible refine (HC.out _ (HS.out.later J.w)).mono ?_); rintro e w1 ⟨rfl, hb1⟩)
    have J1 := J.later hb1
    obtain ⟨d0, d1, d2⟩ := cell3 J1.c
    have HJ1 := Lib.hid J1
    clear J J1 hb1
    go_wp2_with fail
    ((with_reducible refine (HR.out _).mono ?_); rintro e w2 ⟨rfl, hb2⟩)
    have J2 := HJ1.out.later hb2
    go_wp2
    go_ret2
    exact ⟨_, rfl, .inl ⟨none, 0, rfl, rfl⟩, J2.w⟩
  subst hr
  obtain rfl : D = D0 := by rw [hE2, if_neg (by simp)]
  clear HE hE2
  go_enter Tryz.func80, Tryz.ntmps80
  go_wp2_with fail
  ((with_reducible refine (HC.out _ (HS.out.later J.w)).mono ?_); rintro e w1 ⟨rfl, hb1⟩)
  have J1 := J.later hb1
  obtain ⟨d0, d1, d2⟩ := cell3 J1.c
  have HJ1 := Lib.hid J1
  clear J J1 hb1
  go_wp2_with fail
  ((with_reducible refine (HR.out _).mono ?_); rintro e w2 ⟨rfl, hb2⟩)
  have J2 := HJ1.out.later hb2
  obtain ⟨f0, f1, f2⟩ := cell3 J2.c
  have HJ2 := Lib.hid J2
  clear J2 hb2 d0 d1 d2
  go_wp2_with fail
  ((with_reducible refine (HD.out _ (HS.out.later HJ2.out.w) (by trivial) (by trivial)).mono ?_); rintro e w3 ⟨v3, rfl, hO, hb3⟩)
  have J3 := HJ2.out.later hb3
  have HO := Lib.hid hO
  clear hO hb3
  go_wp2
  go_ret2
  exact ⟨_, rfl, HO.out, J3.w⟩
end Go.Proofs.Wk
/- REGISTERS OF LOTS: the reference's Line, Lined, Journal. -/
namespace Go.Proofs.Wk
open Go.RowKit Mt

set_option maxRecDepth 100000 in
set_option maxHeartbeats 1000000 in
theorem Line_c (h : Int) (s : Txt) (w : World) (hl : s.length ≤ 40) : Calls Tryz.prog 79 #[.int .i64 h, .string ⟨s.toArray⟩] w
    (Ret w (.tuple #[.string ⟨(Lib.itoa (Rg.sumL h s) ++ 32 :: (s ++ [10])).toArray⟩, .int .i64 (Rg.sumL h s)])) := by
  have HSM := Lib.hid (fun W => rSum_c h s W (by omega))
  have hsin := Rg.sumL_in h s
  generalize Rg.sumL h s = h2 at *
  have HD := Lib.hid (fun W => Digits_i h2 W (by omega) (by omega))
  have htl := Rg.itoa_len hsin.1 (by omega)
  generalize Lib.itoa h2 = tn at *
  obtain ⟨V1, q1⟩ : ∃ V1 : Txt, tn ++ [32] = V1 := ⟨_, rfl⟩
  obtain ⟨V2, q2⟩ : ∃ V2 : Txt, V1 ++ s = V2 := ⟨_, rfl⟩
  obtain ⟨V3, hV3⟩ : ∃ V3 : Txt, tn ++ 32 :: (s ++ [10]) = V3 := ⟨_, rfl⟩
  have q3 : V2 ++ [10] = V3 := by rw [← hV3, ← q2, ← q1]; simp
  have l1 : V1.length ≤ 8 := by rw [← q1, List.length_append, List.length_cons]; simp only [List.length_nil]; omega
  have l2 : V2.length ≤ 48 := by rw [← q2, List.length_append]; omega
  have g1 : ∀ W, (Op.stringOp .add ⟨tn.toArray⟩ ⟨#[32]⟩).run Tryz.prog W = .ok (.string ⟨V1.toArray⟩) W := fun W => by rw [← q1]; exact cat_run tn [32] (by simp only [List.length_cons, List.length_nil]; omega) W
  have g2 : ∀ W, (Op.stringOp .add ⟨V1.toArray⟩ ⟨s.toArray⟩).run Tryz.prog W = .ok (.string ⟨V2.toArray⟩) W := fun W => by rw [← q2]; exact cat_run V1 s (by omega) W
  have g3 : ∀ W, (Op.stringOp .add ⟨V2.toArray⟩ ⟨#[10]⟩).run Tryz.prog W = .ok (.string ⟨V3.toArray⟩) W := fun W => by rw [← q3]; exact cat_run V2 [10] (by simp only [List.length_cons, List.length_nil]; omega) W
  rw [hV3]
  clear q1 q2 q3 hV3 l1 l2 htl hsin
  go_enter Tryz.func79, Tryz.ntmps79
  go_wp2_with fail
  ((with_reducible refine (HSM.out _).mono ?_); rintro e w1 ⟨rfl, rfl⟩)
  go_wp2_with fail
  ((with_reducible refine (HD.out _).mono ?_); rintro e w2 ⟨rfl, hb2⟩)
  have hb := Lib.hid hb2
  clear hb2
  go_wp2
  go_ret2
  exact ⟨rfl, hb.out⟩
theorem linesF_len : ∀ (es : List Rg.En) (h : Int), (∀ x ∈ es, Rg.rightE x = 0) → (Rg.linesF h es).length ≤ 60 * es.length
  | [], _, _ => Nat.zero_le _
  | x :: xs, h, hr => by
    have ih := linesF_len xs (Rg.sumL h (Rg.writ x)) (fun y hy => hr y (List.mem_cons_of_mem _ hy))
    have hs := Rg.sumL_in h (Rg.writ x)
    have h1 := Rg.itoa_len hs.1 (by omega)
    have h2 := Rg.writ_len (hr x (by simp))
    unfold Rg.linesF Rg.lineF
    simp only [List.length_append, List.length_cons, List.length_nil]
    omega
end Go.Proofs.Wk
