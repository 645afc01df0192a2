/- THE LAW RegisterJournals: the walk. -/
import Derived.Test.YtffmhlaenfecgaaGreatDoorRhW
import Derived.Test.YtffmhlaenfecgaaGreatDoorKI
namespace Go.Proofs.Wk
open Go.RowKit Mt

theorem fewE_or {es : List Rg.En} (h : fewE es = true) : es.length ≤ 20 ∨ 4096 < es.length := by
  unfold fewE at h
  simp only [Bool.and_eq_true, Bool.not_eq_true', Bool.or_eq_false_iff, Bool.and_eq_false_iff, decide_eq_false_iff_not] at h
  omega
set_option maxRecDepth 100000 in
set_option maxHeartbeats 2000000 in
theorem journals_c {v : Value} (es : List Rg.En) (w : World) (hg : Good w) (S : SlX w v es) (hln : es.length * 32 ≤ 140737488355328) (hn : ∀ x ∈ es, x.lot.length ≤ 140737488355328) :
    Calls Tryz.prog 7 #[v] w (Ret w (.bool true)) := by
  have HG := Lib.hid hg
  have HA := Lib.hid (fun W hW => awake_c W hW)
  have HE := Lib.hid (fun W S => entries_c (v := v) es W S hln)
  have HF := Lib.hid (fun u W (S : SlX W u es) => Few_g es W S (by omega))
  have HJ := fun hf W hW S => Journal_c (v := v) es W hW S (by omega) hn hf
  have HR := fun hf u W (S : SlX W u es) => rJournal_c es W S (by omega) hn hf
  have HS := Lib.hid S
  have hfe := fewE_or (es := es)
  generalize fewE es = f at *
  generalize Rg.journL es = R at *
  obtain ⟨t, c⟩ := R
  cases f with
  | false =>
    clear hfe HJ HR S hg hln hn
    go_enter Tryz.func7, Tryz.ntmps7
    go_wp2_with fail
    ((with_reducible refine (HE.out _ HS.out).mono ?_); rintro e w1 ⟨v1, rfl, s1, b1⟩)
    go_wp2_with fail
    ((with_reducible refine (HF.out _ _ s1).mono ?_); rintro e w2 ⟨rfl, rfl⟩)
    have B1 := Lib.hid b1
    clear s1 b1
    go_wp2_with fail
    ((with_reducible refine (HA.out _ (HG.out.later B1.out)).mono ?_); rintro e w3 ⟨rfl, b3⟩)
    have B3 := Lib.hid (B1.out.trans (b3.mono B1.out.size))
    clear b3
    go_wp2
    go_ret
    exact ⟨rfl, B3.out⟩
  | true =>
    have HJ := Lib.hid (HJ (hfe rfl))
    have HR := Lib.hid (HR (hfe rfl))
    clear hfe S hg hln hn
    go_enter Tryz.func7, Tryz.ntmps7
    go_wp2_with fail
    ((with_reducible refine (HE.out _ HS.out).mono ?_); rintro e w1 ⟨v1, rfl, s1, b1⟩)
    go_wp2_with fail
    ((with_reducible refine (HF.out _ _ s1).mono ?_); rintro e w2 ⟨rfl, rfl⟩)
    have B1 := Lib.hid b1
    have S1 := Lib.hid (HS.out.later b1)
    clear s1 b1
    go_wp2_with fail
    ((with_reducible refine (HJ.out _ (HG.out.later B1.out) S1.out).mono ?_); rintro e w3 ⟨rfl, b3⟩)
    have B3 := Lib.hid (B1.out.trans (b3.mono B1.out.size))
    have S3 := Lib.hid (S1.out.later b3)
    clear b3
    go_wp2_with fail
    ((with_reducible refine (HE.out _ S3.out).mono ?_); rintro e w4 ⟨v4, rfl, s4, b4⟩)
    have B4 := Lib.hid (B3.out.trans (b4.mono B3.out.size))
    have S4 := Lib.hid s4
    clear b4 s4
    go_wp2_with fail
    ((with_reducible refine (HR.out _ _ S4.out).mono ?_); rintro e w5 ⟨rfl, b5⟩)
    have B5 := Lib.hid (B4.out.trans (b5.mono B4.out.size))
    clear b5
    go_wp2_with fail
    ((with_reducible refine (HA.out _ (HG.out.later B5.out)).mono ?_); rintro e w6 ⟨rfl, b6⟩)
    have B6 := Lib.hid (B5.out.trans (b6.mono B5.out.size))
    clear b6
    go_wp2
    go_ret
    exact ⟨rfl, B6.out⟩
end Go.Proofs.Wk
