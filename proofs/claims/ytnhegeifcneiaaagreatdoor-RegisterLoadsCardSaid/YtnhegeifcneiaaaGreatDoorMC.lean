/- REGISTERS OF LOTS: the reference reads a journal. -/
import Derived.Test.YtnhegeifcneiaaaGreatDoorMA
import Derived.Test.YtnhegeifcneiaaaGreatDoorLC
import Derived.Test.YtnhegeifcneiaaaGreatDoorKI
import Derived.OwnWalk
namespace Go.Proofs.Wk
open Go.RowKit Mt

theorem results_tmp4 {fn : Func} {t u v x : Tmp} (h : fn.results = #[.tmp t, .tmp u, .tmp v, .tmp x]) (tmps : Array Value) (P : Program) (w : World) :
    (results fn tmps).run P w = .ok (.tuple #[tmps.getD t undef, tmps.getD u undef, tmps.getD v undef, tmps.getD x undef]) w := by
  simp [results, h, go_sem]
theorem u8_eqn {c d : UInt8} (h : c = d) : ((c.toNat : Int) == (d.toNat : Int)) = true := by rw [h]; simp
theorem u8_nen {c d : UInt8} (h : c ≠ d) : ((c.toNat : Int) == (d.toNat : Int)) = false := by
  rw [beq_eq_false_iff_ne]; intro e; exact h (UInt8.toNat.inj (by omega))
set_option maxRecDepth 100000 in
set_option maxHeartbeats 1000000 in
theorem rcut_c (c : UInt8) (l : Txt) (w : World) (hl : l.length ≤ 140737488355328) : Calls Tryz.prog 78 #[.string ⟨l.toArray⟩, .int .u8 (c.toNat : Int)] w (Ret w (cutV (Rg.cutB c l))) := by
  obtain ⟨R, hR⟩ : ∃ R, Rg.cutB c l = R := ⟨_, rfl⟩
  rw [hR]
  have HR := Lib.hid hR
  obtain ⟨cn, hcn⟩ : ∃ cn : Int, (c.toNat : Int) = cn := ⟨_, rfl⟩
  have HCN := Lib.hid hcn
  have hc8 := c.toNat_lt
  have hcb : 0 ≤ cn ∧ cn < 256 := by omega
  rw [hcn]
  clear hR hcn hc8
  go_enter Tryz.func78, Tryz.ntmps78
  go_wp2_with fail
  go_loop [7] (fun si => ∃ i : Nat, si = .int .i64 (i : Int) ∧ i ≤ l.length ∧ Hid (c ∉ l.take i)) (fun si => l.length - (intOf si).toNat)
  case atStart => exact ⟨0, rfl, Nat.zero_le _, by intro h; simp at h⟩
  case round =>
    obtain ⟨i, rfl, hi, hA⟩ := hrel
    by_cases hlt : i < l.length
    · by_cases hc : l[i] = c
      · have e : l = l.take i ++ c :: l.drop (i + 1) := by
          conv => lhs; rw [← List.take_append_drop i l, List.drop_eq_getElem_cons hlt, hc]
        have hq : Rg.cutB c l = (l.take i, l.drop (i + 1), true) := by
          have := Rg.cutB_at (l.drop (i + 1)) hA.out
          rwa [← e] at this
        have HQ := Lib.hid (HR.out.symm.trans hq)
        have y1 : ((l[i].toNat : Int) == cn) = true := by rw [← HCN.out]; exact u8_eqn hc
        clear hc e hq hA
        have g1 : (i : Int) ≤ (l.length : Int) := by omega
        have g2 : (0 : Int) ≤ (i : Int) + 1 := by omega
        have g3 : (i : Int) + 1 ≤ (l.length : Int) := by omega
        have g4 : IntKind.i64.wrap ((i : Int) + 1) = (i : Int) + 1 := IntWalk.i64_in _ (by omega)
        have g5 : ((i : Int) + 1).toNat = i + 1 := by omega
        go_wp2_with fail
        go_region
        all_goals (go_wp2; go_ret3)
        all_goals
          refine ⟨?_, (Below.refl _ _).drew⟩
          rw [HQ.out]
          have e6 : (l.drop (i + 1)).take (l.length - (i + 1)) = l.drop (i + 1) := List.take_of_length_le (by simp)
          conv => rhs; rw [← e6]
          rfl
      · have HT : Hid (c ∉ l.take (i + 1)) := Lib.hid (by
          rw [List.take_succ_eq_append_getElem hlt]
          intro h
          rcases List.mem_append.1 h with h | h
          · exact hA.out h
          · exact hc (List.mem_singleton.1 h).symm)
        have y1 : ((l[i].toNat : Int) == cn) = false := by rw [← HCN.out]; exact u8_nen hc
        clear hc hA
        go_wp2
        go_round
        case rel => exact ⟨i + 1, by go_num, by omega, HT⟩
        case measure => simp [intOf]; omega
    · obtain rfl : i = l.length := by omega
      have hq : Rg.cutB c l = (l, [], false) := Rg.cutB_no (by have := hA.out; rwa [List.take_length] at this)
      have HQ := Lib.hid (HR.out.symm.trans hq)
      clear hq hA
      go_wp2
      go_ret3
      rw [HQ.out]
      exact ⟨rfl, Below.refl _ _⟩
set_option maxRecDepth 100000 in
set_option maxHeartbeats 1000000 in
theorem rLine_g (h : Int) (s : Txt) (w : World) (hl : s.length ≤ 1000000) : Calls Tryz.prog 79 #[.int .i64 h, .string ⟨s.toArray⟩] w
    (Ret w (.tuple #[.string ⟨(Lib.itoa (Rg.sumL h s) ++ 32 :: (s ++ [10])).toArray⟩, .int .i64 (Rg.sumL h s)])) := by
  have HSM := Lib.hid (fun W => rSum_c h s W (by omega))
  have hsin := Rg.sumL_in h s
  generalize Rg.sumL h s = h2 at *
  have HD := Lib.hid (fun W => Digits_i h2 W (by omega) (by omega))
  have htl := Rg.itoa_len hsin.1 (by omega)
  generalize Lib.itoa h2 = tn at *
  obtain ⟨V1, q1⟩ : ∃ V1 : Txt, tn ++ [32] = V1 := ⟨_, rfl⟩
  obtain ⟨V2, q2⟩ : ∃ V2 : Txt, V1 ++ s = V2 := ⟨_, rfl⟩
  obtain ⟨V3, hV3⟩ : ∃ V3 : Txt, tn ++ 32 :: (s ++ [10]) = V3 := ⟨_, rfl⟩
  have q3 : V2 ++ [10] = V3 := by rw [← hV3, ← q2, ← q1]; simp
  have l1 : V1.length ≤ 8 := by rw [← q1, List.length_append, List.length_cons]; simp only [List.length_nil]; omega
  have l2 : V2.length ≤ 1000008 := by rw [← q2, List.length_append]; omega
  have g1 : ∀ W, (Op.stringOp .add ⟨tn.toArray⟩ ⟨#[32]⟩).run Tryz.prog W = .ok (.string ⟨V1.toArray⟩) W := fun W => by rw [← q1]; exact cat_run tn [32] (by simp only [List.length_cons, List.length_nil]; omega) W
  have g2 : ∀ W, (Op.stringOp .add ⟨V1.toArray⟩ ⟨s.toArray⟩).run Tryz.prog W = .ok (.string ⟨V2.toArray⟩) W := fun W => by rw [← q2]; exact cat_run V1 s (by omega) W
  have g3 : ∀ W, (Op.stringOp .add ⟨V2.toArray⟩ ⟨#[10]⟩).run Tryz.prog W = .ok (.string ⟨V3.toArray⟩) W := fun W => by rw [← q3]; exact cat_run V2 [10] (by simp only [List.length_cons, List.length_nil]; omega) W
  rw [hV3]
  clear q1 q2 q3 hV3 l1 l2 htl hsin
  go_enter Tryz.func79, Tryz.ntmps79
  go_wp2_with fail
  ((with_reducible refine (HSM.out _).mono ?_); rintro e w1 ⟨rfl, rfl⟩)
  go_wp2_with fail
  ((with_reducible refine (HD.out _).mono ?_); rintro e w2 ⟨rfl, hb2⟩)
  have hb := Lib.hid hb2
  clear hb2
  go_wp2
  go_ret2
  exact ⟨rfl, hb.out⟩
set_option maxRecDepth 100000 in
theorem Short_c (s : Txt) (w : World) (hl : s.length ≤ 140737488355328) : Calls Tryz.prog 16 #[.string ⟨s.toArray⟩] w (Pur w (.bool (decide (s.length ≤ 1500 ∨ (262144 < s.length ∧ s.length < 524288))))) := by
  by_cases h1 : s.length ≤ 1500
  · have i1 : (s.length : Int) ≤ 1500 := by omega
    rw [decide_eq_true (.inl h1)]
    clear h1
    go_enter Tryz.func16, Tryz.ntmps16
    go_wp2
    go_ret
    exact ⟨rfl, rfl⟩
  · have i1 : ¬ (s.length : Int) ≤ 1500 := by omega
    by_cases h2 : 262144 < s.length
    · have i2 : (262144 : Int) < (s.length : Int) := by omega
      by_cases h3 : s.length < 524288
      · have i3 : (s.length : Int) < 524288 := by omega
        rw [decide_eq_true (.inr ⟨h2, h3⟩)]
        clear h1 h2 h3
        go_enter Tryz.func16, Tryz.ntmps16
        go_wp2
        go_ret
        exact ⟨rfl, rfl⟩
      · have i3 : ¬ (s.length : Int) < 524288 := by omega
        rw [decide_eq_false (by omega)]
        clear h1 h2 h3
        go_enter Tryz.func16, Tryz.ntmps16
        go_wp2
        go_ret
        exact ⟨rfl, rfl⟩
    · have i2 : ¬ (262144 : Int) < (s.length : Int) := by omega
      rw [decide_eq_false (by omega)]
      clear h1 h2
      go_enter Tryz.func16, Tryz.ntmps16
      go_wp2
      go_ret
      exact ⟨rfl, rfl⟩
end Go.Proofs.Wk
/- REGISTERS OF LOTS: the reference's Begun, Load, Repair. -/
namespace Go.Proofs.Wk
open Go.RowKit Mt

/-- What is read of a text: a register, how many lines, how far, and an error's number. -/
def BgP (w : World) (s : Txt) (r : Rg.Rd × Int) (e : Ending) (w' : World) : Prop :=
  ∃ v, e = .returned (.tuple #[v, .int .i64 (r.1.n : Int), .int .i64 ((s.length - r.1.rest.length : Nat) : Int), .int .i64 r.2]) ∧ SlX w' v r.1.lots ∧ Below w.heap.size w w'
theorem lnE_names (lots : List Rg.Lt) (n : Nat) (h : Int) (rest : Txt) : Rg.lnE ⟨lots, n, h, rest⟩ = if n = 4096 then 5 else if (Rg.cutB 10 rest).2.2 = false then 18
    else if (Rg.cutB 32 (Rg.cutB 10 rest).1).2.2 = false ∨ (Rg.cutB 32 (Rg.cutB 10 rest).1).1 ≠ Go.Lib.itoa (Rg.sumL h (Rg.cutB 32 (Rg.cutB 10 rest).1).2.1) then 19
    else if (Rg.rdL (Rg.cutB 32 (Rg.cutB 10 rest).1).2.1).2 ≠ 0 then 4 else (Rg.doneL lots (Rg.rdL (Rg.cutB 32 (Rg.cutB 10 rest).1).2.1).1).2 := rfl
theorem lnR_names (lots : List Rg.Lt) (n : Nat) (h : Int) (rest : Txt) : Rg.lnR ⟨lots, n, h, rest⟩ = ⟨(Rg.doneL lots (Rg.rdL (Rg.cutB 32 (Rg.cutB 10 rest).1).2.1).1).1, n + 1, Rg.sumL h (Rg.cutB 32 (Rg.cutB 10 rest).1).2.1, (Rg.cutB 10 rest).2.1⟩ := rfl
theorem doL_done {ls : List Rg.Lt} {x : Rg.En} (hl : Rg.chkE ls = 0) (hx : Rg.rightE x = 0) : Rg.doL ls x = Rg.doneL ls x := by
  unfold Rg.doL; rw [if_neg (by rw [hl]; simp), if_neg (by rw [hx]; simp)]
/-- The line's number is right: as the reference sees it. -/
theorem right_line {ti nm tx ln : Txt} (h : ln = nm ++ 32 :: tx) : ti ++ 32 :: (tx ++ [10]) = ln ++ [10] ↔ nm = ti := by
  subst h
  constructor
  · intro e
    have : ti ++ (32 :: (tx ++ [10])) = nm ++ (32 :: (tx ++ [10])) := by rw [e]; simp
    exact (List.append_cancel_right this).symm
  · rintro rfl; simp
set_option maxRecDepth 100000 in
set_option maxHeartbeats 8000000 in
theorem Begun_c (s : Txt) (w : World) (hl : s.length ≤ 600000) : Calls Tryz.prog 47 #[.string ⟨s.toArray⟩] w (BgP w s (Rg.runS (Rg.rd0 s))) := by
  obtain ⟨E, hE⟩ : ∃ E, Rg.runS (Rg.rd0 s) = E := ⟨_, rfl⟩
  rw [hE]
  have HE := Lib.hid hE
  clear hE
  go_enter Tryz.func47, Tryz.ntmps47
  go_wp2_with fail
  go_loopw [6, 7, 8, 9] (fun s6 s7 s8 s9 wr => ∃ (lots : List Rg.Lt) (n : Nat) (h : Int) (i : Nat), s7 = .int .i64 h ∧ s8 = .int .i64 (n : Int) ∧ s9 = .int .i64 (i : Int) ∧ i ≤ s.length ∧ n ≤ 4096 ∧ (0 ≤ h ∧ h < 1000003) ∧
    Hid (Rg.chkE lots = 0) ∧ Hid (SlX wr s6 lots) ∧ Hid (Rg.runS ⟨lots, n, h, s.drop i⟩ = E) ∧ Hid (Below w.heap.size w wr)) (fun _ _ _ s9 _ => s.length - (intOf s9).toNat)
  case atStart => exact ⟨[], 0, 1, 0, rfl, rfl, rfl, Nat.zero_le _, Nat.zero_le _, by decide, (show Rg.chkE [] = 0 by decide), .inl ⟨none, 0, rfl, rfl⟩, HE.out, Below.refl _ _⟩
  case round =>
    obtain ⟨lots, n, h, i, rfl, rfl, rfl, hi, hn, hh, hk, hS, hR, hB⟩ := hrel
    have hp : (((s.length - (s.drop i).length : Nat)) : Int) = (i : Int) := by rw [List.length_drop]; omega
    by_cases hlt : i < s.length
    rotate_left
    · obtain rfl : i = s.length := by omega
      have hf := hR.out
      rw [Rg.runS_end (by simp)] at hf
      have HF := Lib.hid hf
      have HP := Lib.hid hp
      clear hR HE hp
      go_wp2
      refine bodyPost_ret (results_tmp4 rfl _ _ _) rfl ?_
      rw [← HF.out]
      exact ⟨u6, by simp only [HP.out]; rfl, hS.out, hB.out⟩
    have hne : s.drop i ≠ [] := by intro e; have := congrArg List.length e; rw [List.length_drop, List.length_nil] at this; omega
    have hdl : (s.drop i).length ≤ 600000 := by rw [List.length_drop]; omega
    have hrl : (s.drop i).length = s.length - i := List.length_drop
    have he : List.take (s.length - i) (List.drop i s) = s.drop i := List.take_of_length_le (by rw [hrl]; exact Nat.le_refl _)
    have bad : ∀ c : Int, Rg.lnE ⟨lots, n, h, s.drop i⟩ = c → c ≠ 0 → ∀ w', Below wr.heap.size wr w' → BgP w s E (.returned (.tuple #[u6, .int .i64 (n : Int), .int .i64 (i : Int), .int .i64 c])) w' := by
      intro c hc h0 w' hb
      have hf := hR.out
      rw [Rg.runS_bad hne (by rw [hc]; exact h0), hc] at hf
      rw [← hf]
      exact ⟨u6, by simp only [hp], hS.out.later hb, hB.out.trans (hb.mono hB.out.size)⟩
    have good : Rg.lnE ⟨lots, n, h, s.drop i⟩ = 0 → Rg.runS (Rg.lnR ⟨lots, n, h, s.drop i⟩) = E := fun h0 => by rw [← Rg.runS_ok hne h0]; exact hR.out
    have hE := lnE_names lots n h (s.drop i)
    have hNR := lnR_names lots n h (s.drop i)
    have hcut := Rg.cutB_cases 10 (s.drop i)
    obtain ⟨z1, z2, -⟩ := Rg.cutB_len (c := 10) (s := s.drop i)
    obtain ⟨z3, z4, -⟩ := Rg.cutB_len (c := 32) (s := (Rg.cutB 10 (s.drop i)).1)
    have hcut2 := Rg.cutB_cases 32 (Rg.cutB 10 (s.drop i)).1
    have HC1 := Lib.hid (fun W => show Calls Tryz.prog 78 #[.string ⟨(s.drop i).toArray⟩, .int .u8 10] W (Ret W (cutV (Rg.cutB 10 (s.drop i)))) from rcut_c 10 (s.drop i) W (by omega))
    have HC2 := Lib.hid (fun W => show Calls Tryz.prog 78 #[.string ⟨(Rg.cutB 10 (s.drop i)).1.toArray⟩, .int .u8 32] W (Ret W (cutV (Rg.cutB 32 (Rg.cutB 10 (s.drop i)).1))) from rcut_c 32 _ W (by omega))
    have HL := Lib.hid (fun W => rLine_g h (Rg.cutB 32 (Rg.cutB 10 (s.drop i)).1).2.1 W (by omega))
    have hin := Rg.sumL_in h (Rg.cutB 32 (Rg.cutB 10 (s.drop i)).1).2.1
    have HQ := Lib.hid (fun W => rRead_c (Rg.cutB 32 (Rg.cutB 10 (s.drop i)).1).2.1 W (by omega))
    have hrt := Rg.rdL_right (s := (Rg.cutB 32 (Rg.cutB 10 (s.drop i)).1).2.1)
    rw [show Rg.readL Rg.numR (Rg.cutB 32 (Rg.cutB 10 (s.drop i)).1).2.1 = Rg.rdL (Rg.cutB 32 (Rg.cutB 10 (s.drop i)).1).2.1 from rfl] at HQ
    generalize Rg.rdL (Rg.cutB 32 (Rg.cutB 10 (s.drop i)).1).2.1 = RD at *
    have hkk := hk.out
    have HD := Lib.hid (fun (hx : Rg.rightE RD.1 = 0) W (S : SlX W u6 lots) => (by
      have := rDo_c (v := u6) lots RD.1 W S (fun y hy => by have := Rg.name_len ((Rg.chkE_iff lots).1 hkk |>.2.1 y hy).1; omega) (by have := Rg.name_len ((Rg.rightE_iff _).1 hx).2.1; omega)
      rwa [doL_done hkk hx] at this : Calls Tryz.prog 80 #[u6, entV RD.1] W (DoneP W (Rg.doneL lots RD.1))))
    have hdk := fun (hx : Rg.rightE RD.1 = 0) (h0 : (Rg.doneL lots RD.1).2 = 0) => (Rg.done_ok hkk hx h0).1
    clear hkk hk
    generalize Rg.doneL lots RD.1 = D at *
    generalize Rg.sumL h (Rg.cutB 32 (Rg.cutB 10 (s.drop i)).1).2.1 = H at *
    generalize Rg.cutB 32 (Rg.cutB 10 (s.drop i)).1 = C2 at *
    generalize Rg.cutB 10 (s.drop i) = C1 at *
    obtain ⟨ln, nx, ok1⟩ := C1
    obtain ⟨nm, tx, ok2⟩ := C2
    obtain ⟨⟨xk, xl, xn⟩, rc⟩ := RD
    obtain ⟨l', dc⟩ := D
    dsimp only at HC1 HC2 HL HQ HD hE hNR hrt hcut hcut2 z1 z2 z3 z4 hdk
    have HBAD := Lib.hid bad
    have HGOOD := Lib.hid good
    have HE1 := Lib.hid hE
    have HNR := Lib.hid hNR
    have HRT := Lib.hid hrt
    have HDK := Lib.hid hdk
    have HCUT := Lib.hid hcut
    have HCUT2 := Lib.hid hcut2
    have HHE := Lib.hid he
    have HRL := Lib.hid hrl
    have i0 : (i : Int) < (s.length : Int) := by omega
    have i1 : (i : Int) ≤ (s.length : Int) := by omega
    clear bad good hE hNR hrt hdk hcut hcut2 hne hp HE hR hrl
    by_cases hn4 : n = 4096
    · have y1 : ((n : Int) == 4096) = true := by rw [beq_iff_eq]; omega
      have HF := Lib.hid (show Rg.lnE ⟨lots, n, h, s.drop i⟩ = 5 by rw [HE1.out, if_pos hn4])
      clear HC1 HC2 HL HQ HD HE1 HNR HRT HDK HCUT HCUT2 hin hn4 he
      go_wp2
      (try simp only [Exit.inBlock, Exit.then])
      refine bodyPost_ret (results_tmp4 rfl _ _ _) rfl ?_
      exact HBAD.out 5 HF.out (by decide) _ (Below.refl _ _)
    have y1 : ((n : Int) == 4096) = false := by rw [beq_eq_false_iff_ne]; omega
    have HE2 := Lib.hid (by have := HE1.out; rwa [if_neg hn4] at this)
    have hn5 : (n : Int) < 4096 := by omega
    clear HE1 hn4
    obtain ⟨V3, hV3⟩ : ∃ V3 : Txt, Go.Lib.itoa H ++ 32 :: (tx ++ [10]) = V3 := ⟨_, rfl⟩
    obtain ⟨L10, hL10⟩ : ∃ L : Txt, ln ++ [10] = L := ⟨_, rfl⟩
    have g1 : ∀ W, (Op.stringOp .add ⟨ln.toArray⟩ ⟨#[10]⟩).run Tryz.prog W = .ok (.string ⟨L10.toArray⟩) W := fun W => by rw [← hL10]; exact cat_run ln [10] (by simp only [List.length_cons, List.length_nil]; omega) W
    have hl10 : L10.length = ln.length + 1 := by rw [← hL10]; simp
    have HLE := Lib.hid hl10
    rw [hV3] at HL
    have HV3 := Lib.hid hV3
    have HL10 := Lib.hid hL10
    generalize Go.Lib.itoa H = ti at *
    clear hV3 hL10 hl10
    go_wp2_with fail
    ((with_reducible refine (HC1.out _).mono ?_); rintro e w1 ⟨rfl, hb1⟩)
    have B1 := Lib.hid hb1
    clear hb1 HC1 he
    cases ok1 with
    | false =>
      have HF := Lib.hid (show Rg.lnE ⟨lots, n, h, s.drop i⟩ = 18 by rw [HE2.out, if_pos rfl])
      clear HC2 HL HQ HD HE2 HNR HRT HDK HCUT HCUT2 hin HV3 HL10
      go_wp2
      (try simp only [Exit.inBlock, Exit.then])
      refine bodyPost_ret (results_tmp4 rfl _ _ _) rfl ?_
      exact HBAD.out 18 HF.out (by decide) _ B1.out
    | true =>
    have HE3 := Lib.hid (by have := HE2.out; rwa [if_neg (by simp)] at this)
    clear HE2
    go_wp2_with fail
    ((with_reducible refine (HC2.out _).mono ?_); rintro e w2 ⟨rfl, hb2⟩)
    have B2 := Lib.hid (B1.out.trans (hb2.mono B1.out.size))
    clear hb2 HC2 B1
    go_wp2_with fail
    ((with_reducible refine (HL.out _).mono ?_); rintro e w3 ⟨rfl, hb3⟩)
    have B3 := Lib.hid (B2.out.trans (hb3.mono B2.out.size))
    clear hb3 HL B2
    cases ok2 with
    | false =>
      have HF := Lib.hid (show Rg.lnE ⟨lots, n, h, s.drop i⟩ = 19 by rw [HE3.out, if_pos (.inl rfl)])
      clear HQ HD HE3 HNR HRT HDK HCUT HCUT2 hin HV3 HL10
      go_wp2
      (try simp only [Exit.inBlock, Exit.then])
      refine bodyPost_ret (results_tmp4 rfl _ _ _) rfl ?_
      exact HBAD.out 19 HF.out (by decide) _ B3.out
    | true =>
    have hln : ln = nm ++ 32 :: tx := by
      rcases HCUT2.out with ⟨-, q⟩ | ⟨a, c, -, q1, q2⟩
      · cases q
      · cases q2; exact q1
    have hdr : s.drop i = ln ++ 10 :: nx := by
      rcases HCUT.out with ⟨-, q⟩ | ⟨a, c, -, q1, q2⟩
      · cases q
      · cases q2; exact q1
    have hrgt : V3 = L10 ↔ nm = ti := by rw [← HV3.out, ← HL10.out]; exact right_line hln
    have HDR := Lib.hid hdr
    clear hln hdr HCUT HCUT2
    by_cases hnm : nm = ti
    rotate_left
    · have HF := Lib.hid (show Rg.lnE ⟨lots, n, h, s.drop i⟩ = 19 by rw [HE3.out, if_pos (.inr hnm)])
      have y2 : (V3 == L10) = false := beq_eq_false_iff_ne.2 fun q => hnm (hrgt.1 q)
      have y3 : (V3 != L10) = true := by rw [bne, y2]; rfl
      clear HQ HD HE3 HNR HRT HDK hin hnm hrgt HV3 HL10
      go_wp2
      (try simp only [Exit.inBlock, Exit.then])
      refine bodyPost_ret (results_tmp4 rfl _ _ _) rfl ?_
      exact HBAD.out 19 HF.out (by decide) _ B3.out
    have HE4 := Lib.hid (by have := HE3.out; rwa [if_neg (by rintro (q | q); cases q; exact q hnm)] at this)
    have hVL := hrgt.2 hnm
    have y2 : (V3 == L10) = true := beq_iff_eq.2 hVL
    have y3 : (V3 != L10) = false := by rw [bne, y2]; rfl
    have hv1 : V3.length = ln.length + 1 := by rw [hVL]; exact HLE.out
    have hd1 : ln.length + 1 + nx.length = s.length - i := by
      have := congrArg List.length HDR.out
      rw [HRL.out] at this
      simp only [List.length_append, List.length_cons] at this; omega
    have hnx : s.drop (i + V3.length) = nx := by
      rw [← List.drop_drop, HDR.out, hv1, show ln ++ 10 :: nx = (ln ++ [10]) ++ nx by simp, show ln.length + 1 = (ln ++ [10]).length by simp]
      exact List.drop_left
    have HNX := Lib.hid hnx
    have k1 : i + V3.length ≤ s.length := by omega
    have k2 : 0 < V3.length := by omega
    clear HE3 hnm hrgt hVL hnx hv1 hd1 HV3 HL10 HDR
    go_wp2_with fail
    ((with_reducible refine (HQ.out _).mono ?_); rintro e w5 ⟨rfl, hb5⟩)
    have B5 := Lib.hid ((B3.out.trans (hb5.mono B3.out.size)).alloc (B3.out.trans (hb5.mono B3.out.size)).size (.cells #[.int .i64 xk, .string ⟨xl.toArray⟩, .int .i64 xn] 30))
    clear hb5 HQ B3 y2 y3 g1
    by_cases hrc : rc = 0
    rotate_left
    · have HF := Lib.hid (show Rg.lnE ⟨lots, n, h, s.drop i⟩ = 4 by rw [HE4.out, if_pos hrc])
      have y2 : (rc != 0) = true := bne_iff_ne.2 hrc
      clear HD HE4 HNR HRT HDK hin hrc HNX
      go_wp2
      (try simp only [Exit.inBlock, Exit.then])
      refine bodyPost_ret (results_tmp4 rfl _ _ _) rfl ?_
      exact HBAD.out 4 HF.out (by decide) _ B5.out
    subst hrc
    have HE5 := Lib.hid (by have := HE4.out; rwa [if_neg (by simp)] at this)
    have HDD := Lib.hid (HD.out (HRT.out rfl))
    have HDC := Lib.hid (HDK.out (HRT.out rfl))
    have HS5 := Lib.hid (hS.out.later B5.out)
    clear HE4 HD HRT HDK hS
    go_wp2_with fail
    ((with_reducible refine (HDD.out _ HS5.out).mono ?_); rintro e w6 ⟨v6, rfl, hs6, hb6⟩)
    have B6 := Lib.hid (B5.out.trans (hb6.mono B5.out.size))
    have HS6 := Lib.hid hs6
    clear hb6 hs6 HDD HS5 B5
    by_cases hdc : dc = 0
    rotate_left
    · have HF := Lib.hid (show Rg.lnE ⟨lots, n, h, s.drop i⟩ = dc from HE5.out)
      have y2 : (dc != 0) = true := bne_iff_ne.2 hdc
      have HND := Lib.hid hdc
      clear HE5 HNR hin hdc HNX HS6 HDC
      go_wp2
      (try simp only [Exit.inBlock, Exit.then])
      refine bodyPost_ret (results_tmp4 rfl _ _ _) rfl ?_
      exact HBAD.out dc HF.out HND.out _ B6.out
    subst hdc
    have hgd := HGOOD.out HE5.out
    rw [HNR.out, ← HNX.out] at hgd
    have HGD := Lib.hid hgd
    have HDC2 := Lib.hid (HDC.out rfl)
    have B7 := Lib.hid (hB.out.trans (B6.out.mono hB.out.size))
    clear HE5 HNR HGOOD HBAD hgd HNX HDC B6 hB
    go_wp2
    go_roundw
    case rel => exact ⟨l', n + 1, H, i + V3.length, rfl, by go_num, by go_num, k1, by omega, hin, HDC2.out, HS6.out, HGD.out, B7.out⟩
    case measure => simp [intOf]; omega
set_option maxRecDepth 100000 in
set_option maxHeartbeats 2000000 in
theorem rLoad_c (s : Txt) (w : World) (hl : s.length ≤ 600000) : Calls Tryz.prog 18 #[.string ⟨s.toArray⟩] w (AllP w (Rg.loadL s)) := by
  by_cases hm : 262144 < s.length
  · rw [show Rg.loadL s = ([], 0, 17) by unfold Rg.loadL; rw [if_pos hm]]
    have i1 : (262144 : Int) < (s.length : Int) := by omega
    clear hm
    go_enter Tryz.func18, Tryz.ntmps18
    go_wp2
    go_ret3
    exact ⟨_, rfl, .inl ⟨none, 0, rfl, rfl⟩, Below.refl _ _⟩
  have hE : Rg.loadL s = if (Rg.runS (Rg.rd0 s)).2 ≠ 0 then ([], ((Rg.runS (Rg.rd0 s)).1.n : Int), (Rg.runS (Rg.rd0 s)).2) else ((Rg.runS (Rg.rd0 s)).1.lots, ((Rg.runS (Rg.rd0 s)).1.n : Int), 0) := by
    unfold Rg.loadL; rw [if_neg hm]
  have HB := Lib.hid (fun W => Begun_c s W hl)
  have i1 : ¬ (262144 : Int) < (s.length : Int) := by omega
  generalize Rg.loadL s = L at *
  generalize Rg.runS (Rg.rd0 s) = R at *
  obtain ⟨⟨lots, n, h, rest⟩, c⟩ := R
  dsimp only at hE HB
  by_cases hc : c = 0
  · obtain rfl : L = (lots, (n : Int), 0) := by rw [hE, if_neg (by rw [hc]; simp)]
    subst hc
    clear hE hm
    go_enter Tryz.func18, Tryz.ntmps18
    go_wp2_with fail
    ((with_reducible refine (HB.out _).mono ?_); rintro e w1 ⟨v1, rfl, hs1, hb1⟩)
    go_wp2
    go_ret3
    exact ⟨v1, rfl, hs1, hb1⟩
  · obtain rfl : L = ([], (n : Int), c) := by rw [hE, if_pos hc]
    have y1 : (c != 0) = true := bne_iff_ne.2 hc
    clear hE hm hc
    go_enter Tryz.func18, Tryz.ntmps18
    go_wp2_with fail
    ((with_reducible refine (HB.out _).mono ?_); rintro e w1 ⟨v1, rfl, hs1, hb1⟩)
    go_wp2
    go_ret3
    exact ⟨_, rfl, .inl ⟨none, 0, rfl, rfl⟩, hb1⟩
set_option maxRecDepth 100000 in
set_option maxHeartbeats 2000000 in
theorem rRepair_c (s : Txt) (w : World) (hl : s.length ≤ 600000) : Calls Tryz.prog 22 #[.string ⟨s.toArray⟩] w (Ret w (.string ⟨(Rg.repairL s).toArray⟩)) := by
  have hE : Rg.repairL s = (s.take 262144).take ((s.take 262144).length - (Rg.runS (Rg.rd0 (s.take 262144))).1.rest.length) := rfl
  by_cases hm : 262144 < s.length
  · have i1 : (262144 : Int) < (s.length : Int) := by omega
    have i2 : (262144 : Int) ≤ (s.length : Int) := by omega
    obtain ⟨t, ht⟩ : ∃ t, s.take 262144 = t := ⟨_, rfl⟩
    have hlt : t.length = 262144 := by rw [← ht, List.length_take]; omega
    have HB := Lib.hid (fun W => Begun_c t W (by omega))
    rw [ht] at hE
    have hk : t.length - (Rg.runS (Rg.rd0 t)).1.rest.length ≤ t.length := Nat.sub_le _ _
    generalize Rg.repairL s = L at *
    generalize Rg.runS (Rg.rd0 t) = R at *
    obtain ⟨⟨lots, n, h, rest⟩, c⟩ := R
    dsimp only at hE HB hk
    unfold BgP at HB
    dsimp only at HB
    generalize t.length - rest.length = k at *
    have HE := Lib.hid hE
    have ht' : List.take 262144 s = t := ht
    have hlt2 : (k : Int) ≤ (t.length : Int) := by omega
    clear hE hm ht hlt
    go_enter Tryz.func22, Tryz.ntmps22
    go_wp2_with fail
    ((with_reducible refine (HB.out _).mono ?_); rintro e w1 ⟨v1, rfl, hs1, hb1⟩)
    clear ht'
    go_wp2
    go_ret
    rw [HE.out]
    exact ⟨rfl, hb1⟩
  · have i1 : ¬ (262144 : Int) < (s.length : Int) := by omega
    have ht : s.take 262144 = s := List.take_of_length_le (by omega)
    rw [ht] at hE
    have HB := Lib.hid (fun W => Begun_c s W (by omega))
    have hk : s.length - (Rg.runS (Rg.rd0 s)).1.rest.length ≤ s.length := Nat.sub_le _ _
    generalize Rg.repairL s = L at *
    generalize Rg.runS (Rg.rd0 s) = R at *
    obtain ⟨⟨lots, n, h, rest⟩, c⟩ := R
    dsimp only at hE HB hk
    unfold BgP at HB
    dsimp only at HB
    generalize s.length - rest.length = k at *
    have HE := Lib.hid hE
    have hlt2 : (k : Int) ≤ (s.length : Int) := by omega
    clear hE hm ht
    go_enter Tryz.func22, Tryz.ntmps22
    go_wp2_with fail
    ((with_reducible refine (HB.out _).mono ?_); rintro e w1 ⟨v1, rfl, hs1, hb1⟩)
    go_wp2
    go_ret
    rw [HE.out]
    exact ⟨rfl, hb1⟩
end Go.Proofs.Wk
