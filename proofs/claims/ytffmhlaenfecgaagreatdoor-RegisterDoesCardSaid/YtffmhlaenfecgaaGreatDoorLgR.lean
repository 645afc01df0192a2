/- THE LAW RegisterRuns: the walk. -/
import Derived.Test.YtffmhlaenfecgaaGreatDoorRhW
import Derived.Test.YtffmhlaenfecgaaGreatDoorKI
namespace Go.Proofs.Wk
open Go.RowKit Mt

theorem allL_len (es : List Rg.En) : (Rg.allL es).1.length ≤ 256 := by
  unfold Rg.allL
  split
  · exact Nat.zero_le _
  · exact ((Rg.chkE_iff _).1 (Rg.allF_ok (es := es) (l := []) (i := 0) (by decide))).1
set_option maxRecDepth 100000 in
set_option maxHeartbeats 4000000 in
theorem runs_c {v u : Value} (es : List Rg.En) (ls : List Rg.Lt) (nm : Txt) (w : World) (hg : Good w) (S : SlX w v es) (T : SlX w u ls) (hle : es.length * 32 ≤ 140737488355328) (hll : ls.length * 64 ≤ 140737488355328)
    (hne : ∀ x ∈ es, x.lot.length ≤ 140737488355328) (hnl : ∀ x ∈ ls, x.nm.length ≤ 140737488355328) (hnm : nm.length ≤ 140737488355328) :
    Calls Tryz.prog 4 #[v, u, .string ⟨nm.toArray⟩] w (Ret w (.bool true)) := by
  have HG := Lib.hid hg
  have HA := Lib.hid (fun W hW => awake_c W hW)
  have HE := Lib.hid (fun W S => entries_c (v := v) es W S hle)
  have HL := Lib.hid (fun W S => lots_c (v := u) ls W S hll)
  have HF := Lib.hid (fun a W (S : SlX W a es) => Few_g es W S (by omega))
  have HFL := Lib.hid (fun a W (S : SlX W a ls) => FewLots_c ls W S (by omega))
  have H1 := Lib.hid (fun W S => All_c (v := v) es W S (by omega) hne)
  have H2 := Lib.hid (fun a W (S : SlX W a es) => rAll_c es W S (by omega) hne)
  have H3 := Lib.hid (fun W hW S => Usable_c (v := u) ls nm W hW S hnl hnm)
  have H4 := Lib.hid (fun a W (S : SlX W a ls) => rUsable_c ls nm W S hnl hnm)
  have hal := allL_len es
  have H5 := Lib.hid (fun a W (S : SlX W a (Rg.allL es).1) => lots_c (Rg.allL es).1 W S (by omega))
  have H6 := Lib.hid (fun a b W (S : SlX W a (Rg.allL es).1) (T : SlX W b (Rg.allL es).1) => by have := Same_c (Rg.allL es).1 (Rg.allL es).1 W S T (by omega) (by omega); rwa [decide_eq_true rfl] at this)
  have HS := Lib.hid S
  have HT := Lib.hid T
  generalize fewE es = f at *
  generalize fewL ls = g at *
  generalize Rg.allL es = R at *
  generalize useL ls nm = U at *
  obtain ⟨rl, rn, rc⟩ := R
  obtain ⟨ut, uc⟩ := U
  clear hg hle hll hne hnl hal S T
  cases f with
  | false =>
    clear H1 H2 H3 H4 H5 H6
    go_enter Tryz.func4, Tryz.ntmps4
    go_wp2_with fail
    ((with_reducible refine (HE.out _ HS.out).mono ?_); rintro e w1 ⟨v1, rfl, s1, b1⟩)
    go_wp2_with fail
    ((with_reducible refine (HF.out _ _ s1).mono ?_); rintro e w2 ⟨rfl, rfl⟩)
    have B1 := Lib.hid b1
    clear s1 b1
    go_wp2_with fail
    ((with_reducible refine (HA.out _ (HG.out.later B1.out)).mono ?_); rintro e w3 ⟨rfl, b3⟩)
    have B3 := Lib.hid (B1.out.trans (b3.mono B1.out.size))
    clear b3
    go_wp2
    go_ret
    exact ⟨rfl, B3.out⟩
  | true =>
    cases g with
    | false =>
      clear H1 H2 H3 H4 H5 H6
      go_enter Tryz.func4, Tryz.ntmps4
      go_wp2_with fail
      ((with_reducible refine (HE.out _ HS.out).mono ?_); rintro e w1 ⟨v1, rfl, s1, b1⟩)
      go_wp2_with fail
      ((with_reducible refine (HF.out _ _ s1).mono ?_); rintro e w2 ⟨rfl, rfl⟩)
      have B1 := Lib.hid b1
      have T1 := Lib.hid (HT.out.later b1)
      clear s1 b1
      go_wp2_with fail
      ((with_reducible refine (HL.out _ T1.out).mono ?_); rintro e w2 ⟨v2, rfl, s2, b2⟩)
      go_wp2_with fail
      ((with_reducible refine (HFL.out _ _ s2).mono ?_); rintro e w3 ⟨rfl, rfl⟩)
      have B2 := Lib.hid (B1.out.trans (b2.mono B1.out.size))
      clear s2 b2
      go_wp2_with fail
      ((with_reducible refine (HA.out _ (HG.out.later B2.out)).mono ?_); rintro e w3 ⟨rfl, b3⟩)
      have B3 := Lib.hid (B2.out.trans (b3.mono B2.out.size))
      clear b3
      go_wp2
      go_ret
      exact ⟨rfl, B3.out⟩
    | true =>
      by_cases h60 : 60 < nm.length
      · clear H1 H2 H3 H4 H5 H6
        go_enter Tryz.func4, Tryz.ntmps4
        go_wp2_with fail
        ((with_reducible refine (HE.out _ HS.out).mono ?_); rintro e w1 ⟨v1, rfl, s1, b1⟩)
        go_wp2_with fail
        ((with_reducible refine (HF.out _ _ s1).mono ?_); rintro e w2 ⟨rfl, rfl⟩)
        have B1 := Lib.hid b1
        have T1 := Lib.hid (HT.out.later b1)
        clear s1 b1
        go_wp2_with fail
        ((with_reducible refine (HL.out _ T1.out).mono ?_); rintro e w2 ⟨v2, rfl, s2, b2⟩)
        go_wp2_with fail
        ((with_reducible refine (HFL.out _ _ s2).mono ?_); rintro e w3 ⟨rfl, rfl⟩)
        have B2 := Lib.hid (B1.out.trans (b2.mono B1.out.size))
        clear s2 b2
        go_wp2_with fail
        ((with_reducible refine (HA.out _ (HG.out.later B2.out)).mono ?_); rintro e w3 ⟨rfl, b3⟩)
        have B3 := Lib.hid (B2.out.trans (b3.mono B2.out.size))
        clear b3
        go_wp2
        go_ret
        exact ⟨rfl, B3.out⟩
      · go_enter Tryz.func4, Tryz.ntmps4
        go_wp2_with fail
        ((with_reducible refine (HE.out _ HS.out).mono ?_); rintro e w1 ⟨v1, rfl, s1, b1⟩)
        go_wp2_with fail
        ((with_reducible refine (HF.out _ _ s1).mono ?_); rintro e w2 ⟨rfl, rfl⟩)
        have B1 := Lib.hid b1
        have T1 := Lib.hid (HT.out.later b1)
        have S1 := Lib.hid (HS.out.later b1)
        clear s1 b1
        go_wp2_with fail
        ((with_reducible refine (HL.out _ T1.out).mono ?_); rintro e w2 ⟨v2, rfl, s2, b2⟩)
        go_wp2_with fail
        ((with_reducible refine (HFL.out _ _ s2).mono ?_); rintro e w3 ⟨rfl, rfl⟩)
        have B2 := Lib.hid (B1.out.trans (b2.mono B1.out.size))
        have T2 := Lib.hid (T1.out.later b2)
        have S2 := Lib.hid (S1.out.later b2)
        clear s2 b2 T1 S1
        go_wp2_with fail
        ((with_reducible refine (H1.out _ S2.out).mono ?_); rintro e w3 ⟨v3, rfl, s3, b3⟩)
        have B3 := Lib.hid (B2.out.trans (b3.mono B2.out.size))
        have T3 := Lib.hid (T2.out.later b3)
        have S3 := Lib.hid (S2.out.later b3)
        have X3 := Lib.hid s3
        clear s3 b3 T2 S2
        go_wp2_with fail
        ((with_reducible refine (HE.out _ S3.out).mono ?_); rintro e w4 ⟨v4, rfl, s4, b4⟩)
        have B4 := Lib.hid (B3.out.trans (b4.mono B3.out.size))
        have T4 := Lib.hid (T3.out.later b4)
        have X4 := Lib.hid (X3.out.later b4)
        have E4 := Lib.hid s4
        clear s4 b4 T3 S3 X3
        go_wp2_with fail
        ((with_reducible refine (H2.out _ _ E4.out).mono ?_); rintro e w5 ⟨v5, rfl, s5, b5⟩)
        have B5 := Lib.hid (B4.out.trans (b5.mono B4.out.size))
        have T5 := Lib.hid (T4.out.later b5)
        have X5 := Lib.hid (X4.out.later b5)
        have Y5 := Lib.hid s5
        clear s5 b5 T4 X4 E4
        go_wp2_with fail
        ((with_reducible refine (H3.out _ (HG.out.later B5.out) T5.out).mono ?_); rintro e w6 ⟨rfl, b6⟩)
        have B6 := Lib.hid (B5.out.trans (b6.mono B5.out.size))
        have T6 := Lib.hid (T5.out.later b6)
        have X6 := Lib.hid (X5.out.later b6)
        have Y6 := Lib.hid (Y5.out.later b6)
        clear b6 T5 X5 Y5
        go_wp2_with fail
        ((with_reducible refine (HL.out _ T6.out).mono ?_); rintro e w7 ⟨v7, rfl, s7, b7⟩)
        have B7 := Lib.hid (B6.out.trans (b7.mono B6.out.size))
        have X7 := Lib.hid (X6.out.later b7)
        have Y7 := Lib.hid (Y6.out.later b7)
        have L7 := Lib.hid s7
        clear s7 b7 T6 X6 Y6
        go_wp2_with fail
        ((with_reducible refine (H4.out _ _ L7.out).mono ?_); rintro e w8 ⟨rfl, b8⟩)
        have B8 := Lib.hid (B7.out.trans (b8.mono B7.out.size))
        have X8 := Lib.hid (X7.out.later b8)
        have Y8 := Lib.hid (Y7.out.later b8)
        clear b8 X7 Y7 L7
        go_wp2_with fail
        ((with_reducible refine (HA.out _ (HG.out.later B8.out)).mono ?_); rintro e w9 ⟨rfl, b9⟩)
        have B9 := Lib.hid (B8.out.trans (b9.mono B8.out.size))
        have X9 := Lib.hid (X8.out.later b9)
        have Y9 := Lib.hid (Y8.out.later b9)
        clear b9 X8 Y8
        go_wp2_with fail
        ((with_reducible refine (H5.out _ _ X9.out).mono ?_); rintro e w10 ⟨v10, rfl, s10, b10⟩)
        have B10 := Lib.hid (B9.out.trans (b10.mono B9.out.size))
        have Y10 := Lib.hid (Y9.out.later b10)
        have X10 := Lib.hid s10
        clear s10 b10 X9 Y9
        go_wp2_with fail
        ((with_reducible refine (H6.out _ _ _ X10.out Y10.out).mono ?_); rintro e w11 ⟨rfl, b11⟩)
        have B11 := Lib.hid (B10.out.trans (b11.mono B10.out.size))
        clear b11
        go_wp2
        go_ret
        exact ⟨rfl, B11.out⟩
end Go.Proofs.Wk
