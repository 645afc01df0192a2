/- REGISTERS OF LOTS: the reference's Done, Do, All. -/
import Derived.Test.YtffmhlaenfecgaaGreatDoorRhQ
import Derived.Test.YtffmhlaenfecgaaGreatDoorKF
import Derived.Test.YtffmhlaenfecgaaGreatDoorKD
import Derived.Test.YtffmhlaenfecgaaGreatDoorKG
namespace Go.Proofs.Wk
open Go.RowKit Mt

set_option maxRecDepth 100000 in
set_option maxHeartbeats 1000000 in
theorem rDone_c {v : Value} (ls : List Rg.Lt) (x : Rg.En) (w : World) (S : SlX w v ls) (hl : Rg.chkE ls = 0) (hx : Rg.rightE x = 0) : Calls Tryz.prog 33 #[v, entV x] w (DoneP w (Rg.doneL ls x)) := by
  by_cases h0 : x.k = 0
  · obtain ⟨k, lot, n⟩ := x
    simp only at h0
    subst h0
    have HB := Lib.hid (fun W S => begun_c (v := v) ls lot n W S hl)
    have J := BX.new w #[.int .i64 0, .string ⟨lot.toArray⟩, .int .i64 n] 34
    have HS := Lib.hid S
    generalize Rg.doneL ls ⟨0, lot, n⟩ = D at *
    clear hl hx S
    go_enter Tryz.func33, Tryz.ntmps33
    go_wp2_with fail
    ((with_reducible refine (HB.out _ (HS.out.later J.w)).mono ?_); rintro e w3 ⟨v3, rfl, hO, hb3⟩)
    have J3 := J.later hb3
    have HO := Lib.hid hO
    clear hO hb3
    go_wp2
    go_ret2
    exact ⟨_, rfl, HO.out, J3.w⟩
  · obtain ⟨k, lot, n⟩ := x
    exact rDone_old ls k lot n w S hl h0 hx
set_option maxRecDepth 100000 in
set_option maxHeartbeats 1000000 in
theorem rDo_c {v : Value} (ls : List Rg.Lt) (x : Rg.En) (w : World) (S : SlX w v ls) (hn : ∀ x ∈ ls, x.nm.length ≤ 140737488355328) (hl : x.lot.length ≤ 140737488355328) : Calls Tryz.prog 12 #[v, entV x] w (DoneP w (Rg.doL ls x)) := by
  have HC := Lib.hid (fun W S => rCheck_g (v := v) ls W S hn)
  have HR := Lib.hid (fun W => rRight_g x W hl)
  have HD := Lib.hid (fun W S hl hx => rDone_c (v := v) ls x W S hl hx)
  have HS := Lib.hid S
  have hD : Rg.doL ls x = if Rg.chkE ls ≠ 0 then ([], Rg.chkE ls) else if Rg.rightE x ≠ 0 then ([], Rg.rightE x) else Rg.doneL ls x := rfl
  have J := BX.new w #[.int .i64 x.k, .string ⟨x.lot.toArray⟩, .int .i64 x.n] 34
  obtain ⟨k, lot, n⟩ := x
  generalize Rg.chkE ls = c at *
  generalize Rg.rightE ⟨k, lot, n⟩ = r at *
  generalize Rg.doneL ls ⟨k, lot, n⟩ = D0 at *
  generalize Rg.doL ls ⟨k, lot, n⟩ = D at *
  simp only at J
  have HE := Lib.hid hD
  clear hD S hn hl
  by_cases hc : c = 0
  rotate_left
  · obtain rfl : D = ([], c) := by rw [HE.out, if_pos hc]
    have y1 : (c != 0) = true := bne_iff_ne.2 hc
    clear HE HD HR hc
    go_enter Tryz.func12, Tryz.ntmps12
    go_wp2_with fail
    ((with_reducible refine (HC.out _ (HS.out.later J.w)).mono ?_); rintro e w1 ⟨rfl, hb1⟩)
    have J1 := J.later hb1
    go_wp2
    go_ret2
    exact ⟨_, rfl, .inl ⟨none, 0, rfl, rfl⟩, J1.w⟩
  subst hc
  have hE2 := HE.out
  rw [if_neg (by simp)] at hE2
  by_cases hr : r = 0
  rotate_left
  · obtain rfl : D = ([], r) := by rw [hE2, if_pos hr]
    have y1 : (r != 0) = true := bne_iff_ne.2 hr
    clear HE HD hr hE2
    go_enter Tryz.func12, Tryz.ntmps12
    go_wp2_with fail
    ((with_reducible refine (HC.out _ (HS.out.later J.w)).mono ?_); rintro e w1 ⟨rfl, hb1⟩)
    have J1 := J.later hb1
    obtain ⟨d0, d1, d2⟩ := cell3 J1.c
    have HJ1 := Lib.hid J1
    clear J J1 hb1
    go_wp2_with fail
    ((with_reducible refine (HR.out _).mono ?_); rintro e w2 ⟨rfl, hb2⟩)
    have J2 := HJ1.out.later hb2
    go_wp2
    go_ret2
    exact ⟨_, rfl, .inl ⟨none, 0, rfl, rfl⟩, J2.w⟩
  subst hr
  obtain rfl : D = D0 := by rw [hE2, if_neg (by simp)]
  clear HE hE2
  go_enter Tryz.func12, Tryz.ntmps12
  go_wp2_with fail
  ((with_reducible refine (HC.out _ (HS.out.later J.w)).mono ?_); rintro e w1 ⟨rfl, hb1⟩)
  have J1 := J.later hb1
  obtain ⟨d0, d1, d2⟩ := cell3 J1.c
  have HJ1 := Lib.hid J1
  clear J J1 hb1
  go_wp2_with fail
  ((with_reducible refine (HR.out _).mono ?_); rintro e w2 ⟨rfl, hb2⟩)
  have J2 := HJ1.out.later hb2
  obtain ⟨f0, f1, f2⟩ := cell3 J2.c
  have HJ2 := Lib.hid J2
  clear J2 hb2 d0 d1 d2
  go_wp2_with fail
  ((with_reducible refine (HD.out _ (HS.out.later HJ2.out.w) (by trivial) (by trivial)).mono ?_); rintro e w3 ⟨v3, rfl, hO, hb3⟩)
  have J3 := HJ2.out.later hb3
  have HO := Lib.hid hO
  clear hO hb3
  go_wp2
  go_ret2
  exact ⟨_, rfl, HO.out, J3.w⟩
set_option maxRecDepth 100000 in
set_option maxHeartbeats 4000000 in
theorem rAll_c {v : Value} (es : List Rg.En) (w : World) (S : SlX w v es) (hln : es.length ≤ 140737488355328) (hn : ∀ x ∈ es, x.lot.length ≤ 140737488355328) : Calls Tryz.prog 21 #[v] w (AllP w (Rg.allL es)) := by
  rcases S with ⟨a, cap, rfl, rfl⟩ | ⟨b, off, cap, rfl, hR, hb⟩
  · go_enter Tryz.func21, Tryz.ntmps21
    go_wp2_with fail
    refine wp_loop_rounds 1 ?_
    rw [rounds_succ]
    go_wp2
    go_ret3
    exact ⟨_, rfl, .inl ⟨none, 0, rfl, rfl⟩, Below.refl _ _⟩
  have hE : Rg.allL es = if 4096 < es.length then ([], 0, 5) else Rg.allF [] 0 es := rfl
  generalize Rg.allL es = E at *
  by_cases h1 : 4096 < es.length
  · obtain rfl : E = ([], 0, 5) := by rw [hE, if_pos h1]
    clear hE
    go_enter Tryz.func21, Tryz.ntmps21
    go_wp2
    go_ret3
    exact ⟨_, rfl, .inl ⟨none, 0, rfl, rfl⟩, Below.refl _ _⟩
  have HE := Lib.hid (show Rg.allF [] 0 (es.drop 0) = E by rw [hE, if_neg h1]; rfl)
  have HR := Lib.hid hR
  have HN := Lib.hid hn
  clear hE hR hn
  go_enter Tryz.func21, Tryz.ntmps21
  go_wp2_with fail
  go_loopw [5, 6] (fun so si wr => ∃ (i : Nat) (out : List Rg.Lt), si = .int .i64 (i : Int) ∧ i ≤ es.length ∧ Hid (SlX wr so out) ∧ Hid (Rg.chkE out = 0) ∧ Hid (Rg.allF out i (es.drop i) = E) ∧ Below w.heap.size w wr) (fun _ si _ => es.length - (intOf si).toNat)
  case atStart => exact ⟨0, [], rfl, Nat.zero_le _, .inl ⟨none, 0, rfl, rfl⟩, rfl, HE.out, Below.refl _ _⟩
  case round =>
    obtain ⟨i, out, rfl, hi, hO, hC, hc, hB⟩ := hrel
    by_cases hlt : i < es.length
    · obtain ⟨k0, k1, k2⟩ := (HR.out.later hB hb).ent hlt
      have hstep := hc.out
      rw [allF_step hlt] at hstep
      have hchk := hC.out
      have HD := Lib.hid (fun W u (S : SlX W u out) => rDo_c out es[i] W S (fun x hx => by have := Rg.name_len ((Rg.chkE_iff out).1 hchk |>.2.1 x hx).1; omega) (HN.out _ (List.getElem_mem hlt)))
      have hdo : Rg.doL out es[i] = if Rg.chkE out ≠ 0 then ([], Rg.chkE out) else if Rg.rightE es[i] ≠ 0 then ([], Rg.rightE es[i]) else Rg.doneL out es[i] := rfl
      rw [if_neg (Decidable.not_not.2 hchk)] at hdo
      have hok : (Rg.doL out es[i]).2 = 0 → Rg.chkE (Rg.doL out es[i]).1 = 0 := fun h => by
        rw [hdo] at h ⊢
        by_cases hr : Rg.rightE es[i] = 0
        · rw [if_neg (Decidable.not_not.2 hr)] at h ⊢; exact (Rg.done_ok hchk hr h).1
        · rw [if_pos hr] at h; exact absurd h hr
      have hst : (if (Rg.doL out es[i]).2 ≠ 0 then ([], (i : Int), (Rg.doL out es[i]).2) else Rg.allF (Rg.doL out es[i]).1 (i + 1) (es.drop (i + 1))) = E := by
        rw [← hstep, hdo]
        by_cases hr : Rg.rightE es[i] = 0
        · rw [if_neg (Decidable.not_not.2 hr), if_neg (Decidable.not_not.2 hr)]
        · rw [if_pos hr, if_pos hr, if_pos hr]
      have HOK := Lib.hid hok
      clear hdo hok hstep hchk
      generalize es[i] = x at *
      obtain ⟨k, lot, n⟩ := x
      simp only at k0 k1 k2
      generalize Rg.doL out ⟨k, lot, n⟩ = D at *
      obtain ⟨dl, dc⟩ := D
      simp only at hst HOK
      have HST := Lib.hid hst
      clear hst hc HE
      go_wp2_with fail
      ((with_reducible refine (HD.out _ _ hO.out).mono ?_); rintro e w2 ⟨v2, rfl, hO2, hb2⟩)
      have HBW := Lib.hid (hB.trans (hb2.mono hB.size))
      have HO2 := Lib.hid hO2
      clear hb2 hO2
      by_cases hd : dc = 0
      · subst hd
        have HS2 := Lib.hid (show Rg.allF dl (i + 1) (es.drop (i + 1)) = E by have := HST.out; rwa [if_neg (by simp)] at this)
        clear HST
        go_wp2
        go_roundw
        case rel => exact ⟨i + 1, dl, by go_num, by omega, HO2.out, HOK.out (by trivial), HS2.out, HBW.out⟩
        case measure => simp [intOf]; omega
      · obtain rfl : ([], (i : Int), dc) = E := by rw [← HST.out, if_pos hd]
        have y1 : (dc != 0) = true := bne_iff_ne.2 hd
        clear HST hd
        go_wp2
        go_ret3
        exact ⟨_, rfl, .inl ⟨none, 0, rfl, rfl⟩, HBW.out⟩
    · obtain rfl : i = es.length := by omega
      have hfin := hc.out
      rw [List.drop_length] at hfin
      obtain rfl : (out, 0, 0) = E := hfin
      clear hc HE
      go_wp2
      go_ret3
      exact ⟨_, rfl, hO.out, hB⟩
end Go.Proofs.Wk
/- REGISTERS OF LOTS: the reference's Line, Lined, Journal. -/
namespace Go.Proofs.Wk
open Go.RowKit Mt

set_option maxRecDepth 100000 in
set_option maxHeartbeats 1000000 in
theorem Line_c (h : Int) (s : Txt) (w : World) (hl : s.length ≤ 40) : Calls Tryz.prog 75 #[.int .i64 h, .string ⟨s.toArray⟩] w
    (Ret w (.tuple #[.string ⟨(Lib.itoa (Rg.sumL h s) ++ 32 :: (s ++ [10])).toArray⟩, .int .i64 (Rg.sumL h s)])) := by
  have HSM := Lib.hid (fun W => rSum_c h s W (by omega))
  have hsin := Rg.sumL_in h s
  generalize Rg.sumL h s = h2 at *
  have HD := Lib.hid (fun W => Digits_i h2 W (by omega) (by omega))
  have htl := Rg.itoa_len hsin.1 (by omega)
  generalize Lib.itoa h2 = tn at *
  obtain ⟨V1, q1⟩ : ∃ V1 : Txt, tn ++ [32] = V1 := ⟨_, rfl⟩
  obtain ⟨V2, q2⟩ : ∃ V2 : Txt, V1 ++ s = V2 := ⟨_, rfl⟩
  obtain ⟨V3, hV3⟩ : ∃ V3 : Txt, tn ++ 32 :: (s ++ [10]) = V3 := ⟨_, rfl⟩
  have q3 : V2 ++ [10] = V3 := by rw [← hV3, ← q2, ← q1]; simp
  have l1 : V1.length ≤ 8 := by rw [← q1, List.length_append, List.length_cons]; simp only [List.length_nil]; omega
  have l2 : V2.length ≤ 48 := by rw [← q2, List.length_append]; omega
  have g1 : ∀ W, (Op.stringOp .add ⟨tn.toArray⟩ ⟨#[32]⟩).run Tryz.prog W = .ok (.string ⟨V1.toArray⟩) W := fun W => by rw [← q1]; exact cat_run tn [32] (by simp only [List.length_cons, List.length_nil]; omega) W
  have g2 : ∀ W, (Op.stringOp .add ⟨V1.toArray⟩ ⟨s.toArray⟩).run Tryz.prog W = .ok (.string ⟨V2.toArray⟩) W := fun W => by rw [← q2]; exact cat_run V1 s (by omega) W
  have g3 : ∀ W, (Op.stringOp .add ⟨V2.toArray⟩ ⟨#[10]⟩).run Tryz.prog W = .ok (.string ⟨V3.toArray⟩) W := fun W => by rw [← q3]; exact cat_run V2 [10] (by simp only [List.length_cons, List.length_nil]; omega) W
  rw [hV3]
  clear q1 q2 q3 hV3 l1 l2 htl hsin
  go_enter Tryz.func75, Tryz.ntmps75
  go_wp2_with fail
  ((with_reducible refine (HSM.out _).mono ?_); rintro e w1 ⟨rfl, rfl⟩)
  go_wp2_with fail
  ((with_reducible refine (HD.out _).mono ?_); rintro e w2 ⟨rfl, hb2⟩)
  have hb := Lib.hid hb2
  clear hb2
  go_wp2
  go_ret2
  exact ⟨rfl, hb.out⟩
set_option maxRecDepth 100000 in
set_option maxHeartbeats 2000000 in
theorem Lined_c {v : Value} (es : List Rg.En) (w : World) (S : SlX w v es) (hle : es.length ≤ 20) (hri : ∀ x ∈ es, Rg.rightE x = 0) : Calls Tryz.prog 47 #[v] w (Ret w (.string ⟨(Rg.linesF 1 es).toArray⟩)) := by
  obtain ⟨L, hL⟩ : ∃ L, Rg.linesF 1 (es.drop 0) = L := ⟨_, rfl⟩
  rw [show Rg.linesF 1 es = L from hL]
  have hst : ∀ i (hi : i < es.length) W, Calls Tryz.prog 76 #[entV es[i]] W (Ret W (.string ⟨(Rg.writ es[i]).toArray⟩)) := fun i hi W => Written_c es[i] W (hri _ (List.getElem_mem hi))
  have hwl : ∀ i (hi : i < es.length), (Rg.writ es[i]).length ≤ 40 := fun i hi => Rg.writ_len (hri _ (List.getElem_mem hi))
  have HT := Lib.hid hst
  have HWL := Lib.hid hwl
  have HL := Lib.hid hL
  clear hst hwl hL hri
  rcases S with ⟨a, cap, rfl, rfl⟩ | ⟨b, off, cap, rfl, hR, hb⟩
  · obtain rfl : [] = L := HL.out
    go_enter Tryz.func47, Tryz.ntmps47
    go_wp2_with fail
    refine wp_loop_rounds 1 ?_
    rw [rounds_succ]
    go_wp2
    go_ret
    exact ⟨rfl, Below.refl _ _⟩
  have HR := Lib.hid hR
  clear hR
  go_enter Tryz.func47, Tryz.ntmps47
  go_wp2_with fail
  go_loopw [3, 4, 6] (fun st sh si wr => ∃ (h : Int) (i : Nat) (l : Txt), st = .string ⟨l.toArray⟩ ∧ sh = .int .i64 h ∧ si = .int .i64 (i : Int) ∧ i ≤ es.length ∧ l.length ≤ 60 * i ∧ Hid (l ++ Rg.linesF h (es.drop i) = L) ∧ Hid (Below w.heap.size w wr)) (fun _ _ si _ => es.length - (intOf si).toNat)
  case atStart => exact ⟨1, 0, [], rfl, rfl, rfl, Nat.zero_le _, by simp, HL.out, Below.refl _ _⟩
  case round =>
    obtain ⟨h, i, l, rfl, rfl, rfl, hi, hl, hc, hB⟩ := hrel
    by_cases hlt : i < es.length
    · obtain ⟨k0, k1, k2⟩ := (HR.out.later hB.out hb).ent hlt
      have hstep := hc.out
      rw [linesF_step hlt] at hstep
      have HTI := Lib.hid (fun W => HT.out i hlt W)
      have hwl := HWL.out i hlt
      have HLI := Lib.hid (fun W => Line_c h (Rg.writ es[i]) W hwl)
      have hline : Rg.lineF h es[i] = Lib.itoa (Rg.sumL h (Rg.writ es[i])) ++ 32 :: (Rg.writ es[i] ++ [10]) := rfl
      have hsin := Rg.sumL_in h (Rg.writ es[i])
      rw [← hline] at HLI
      have htl := Rg.itoa_len hsin.1 (by omega)
      have l3 : (Rg.lineF h es[i]).length ≤ 49 := by rw [hline]; simp only [List.length_append, List.length_cons, List.length_nil]; omega
      generalize Rg.sumL h (Rg.writ es[i]) = h2 at *
      generalize Rg.lineF h es[i] = V3 at *
      generalize Rg.writ es[i] = U0 at *
      generalize es[i] = x at *
      obtain ⟨k, lot, n⟩ := x
      simp only at k0 k1 k2
      obtain ⟨l2, q⟩ : ∃ l2 : Txt, l ++ V3 = l2 := ⟨_, rfl⟩
      have g1 : ∀ W, (Op.stringOp .add ⟨l.toArray⟩ ⟨V3.toArray⟩).run Tryz.prog W = .ok (.string ⟨l2.toArray⟩) W := fun W => by rw [← q]; exact cat_run l V3 (by omega) W
      have HST := Lib.hid (show l2 ++ Rg.linesF h2 (es.drop (i + 1)) = L by rw [← q, List.append_assoc]; exact hstep)
      have HLL := Lib.hid (show l2.length ≤ 60 * (i + 1) by rw [← q, List.length_append]; omega)
      clear hstep hc HL HT HWL hline q l3 htl hwl hsin
      go_wp2_with fail
      ((with_reducible refine (HTI.out _).mono ?_); rintro e w2 ⟨rfl, hb2⟩)
      have a2 := Lib.hid (hB.out.trans (hb2.mono hB.out.size))
      clear hb2
      go_wp2_with fail
      ((with_reducible refine (HLI.out _).mono ?_); rintro e w3 ⟨rfl, hb3⟩)
      have a3 := Lib.hid (a2.out.trans (hb3.mono a2.out.size))
      clear hb3
      go_wp2
      go_roundw
      case rel => exact ⟨h2, i + 1, l2, rfl, rfl, by go_num, by omega, HLL.out, HST.out, a3.out⟩
      case measure => simp [intOf]; omega
    · obtain rfl : i = es.length := by omega
      have hfin := hc.out
      rw [List.drop_length, Rg.linesF, List.append_nil] at hfin
      obtain rfl : l = L := hfin
      clear hc HL HT HWL
      go_wp2
      go_ret
      exact ⟨rfl, hB.out⟩
theorem linesF_len : ∀ (es : List Rg.En) (h : Int), (∀ x ∈ es, Rg.rightE x = 0) → (Rg.linesF h es).length ≤ 60 * es.length
  | [], _, _ => Nat.zero_le _
  | x :: xs, h, hr => by
    have ih := linesF_len xs (Rg.sumL h (Rg.writ x)) (fun y hy => hr y (List.mem_cons_of_mem _ hy))
    have hs := Rg.sumL_in h (Rg.writ x)
    have h1 := Rg.itoa_len hs.1 (by omega)
    have h2 := Rg.writ_len (hr x (by simp))
    unfold Rg.linesF Rg.lineF
    simp only [List.length_append, List.length_cons, List.length_nil]
    omega
set_option maxRecDepth 100000 in
theorem rJournal_c {v : Value} (es : List Rg.En) (w : World) (S : SlX w v es) (hln : es.length ≤ 140737488355328) (hn : ∀ x ∈ es, x.lot.length ≤ 140737488355328) (hfew : es.length ≤ 20 ∨ 4096 < es.length) :
    Calls Tryz.prog 27 #[v] w (Ret w (ans2 (Rg.journL es))) := by
  have HA := Lib.hid (rAll_c es w S hln hn)
  have hE : Rg.journL es = if (Rg.allL es).2.2 ≠ 0 then ([], (Rg.allL es).2.2) else (Rg.linesF 1 es, 0) := rfl
  have hri := Rg.allL_right (es := es)
  have hmany : 4096 < es.length → (Rg.allL es).2.2 = 5 := fun h => by unfold Rg.allL; rw [if_pos h]
  generalize Rg.journL es = E at *
  generalize Rg.allL es = R at *
  obtain ⟨rl, rn, rc⟩ := R
  simp only at hE hri hmany
  by_cases hc : rc = 0
  rotate_left
  · obtain rfl : E = ([], rc) := by rw [hE, if_pos hc]
    have y1 : (rc != 0) = true := bne_iff_ne.2 hc
    clear hE hri hmany hc hfew hln hn S
    go_enter Tryz.func27, Tryz.ntmps27
    go_wp2_with fail
    ((with_reducible refine HA.out.mono ?_); rintro e w1 ⟨v1, rfl, -, hb1⟩)
    go_wp2
    go_ret2
    exact ⟨rfl, hb1⟩
  subst hc
  obtain rfl : E = (Rg.linesF 1 es, 0) := by rw [hE, if_neg (by simp)]
  have hle : es.length ≤ 20 := by
    rcases hfew with h | h
    · exact h
    · have := hmany h; omega
  have hri := hri rfl
  have hll := linesF_len es 1 hri
  have HLD := Lib.hid (fun W S => Lined_c (v := v) es W S hle hri)
  have HS := Lib.hid S
  generalize Rg.linesF 1 es = L at *
  have hll : L.length ≤ 2000 := by omega
  clear hE hri hmany hfew hln hn S
  go_enter Tryz.func27, Tryz.ntmps27
  go_wp2_with fail
  ((with_reducible refine HA.out.mono ?_); rintro e w1 ⟨v1, rfl, -, hb1⟩)
  have a1 := Lib.hid hb1
  go_wp2_with fail
  ((with_reducible refine (HLD.out _ (HS.out.later hb1)).mono ?_); rintro e w2 ⟨rfl, hb2⟩)
  have a2 := Lib.hid (hb1.trans (hb2.mono hb1.size))
  clear hb1 hb2
  go_wp2
  go_ret2
  exact ⟨rfl, a2.out⟩
end Go.Proofs.Wk
