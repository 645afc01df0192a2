/- THE LAW RegisterLoads: the walk. -/
import Derived.Test.YtnhegeifcneiaaaGreatDoorMC
import Derived.Test.YtnhegeifcneiaaaGreatDoorMD
import Derived.Test.YtnhegeifcneiaaaGreatDoorKJ
namespace Go.Proofs.Wk
open Go.RowKit Mt

theorem loadL_len (s : Txt) : (Rg.loadL s).1.length ≤ 256 := by
  unfold Rg.loadL
  split
  · exact Nat.zero_le _
  · split
    · exact Nat.zero_le _
    · exact ((Rg.chkE_iff _).1 (Rg.runS_RdOk _ _ (Nat.le_refl _) (Rg.rd0_ok s)).1.l).1
set_option maxRecDepth 100000 in
set_option maxHeartbeats 4000000 in
theorem loads_c (s : Txt) (w : World) (hg : GoodS w) (hs : s.length ≤ 140737488355328) : Calls Tryz.prog 5 #[.string ⟨s.toArray⟩] w (Ret w (.bool true)) := by
  have HG := Lib.hid (fun W (hb : Below w.heap.size w W) => hg.later hb)
  have HA := Lib.hid (fun W (hW : GoodS W) => awake_c W hW.g)
  have HSH := Lib.hid (fun W => Short_c s W hs)
  by_cases h : s.length ≤ 1500 ∨ (262144 < s.length ∧ s.length < 524288)
  rotate_left
  · rw [decide_eq_false h] at HSH
    clear h
    go_enter Tryz.func5, Tryz.ntmps5
    go_wp2_with fail
    ((with_reducible refine (HSH.out _).mono ?_); rintro e w1 ⟨rfl, rfl⟩)
    go_wp2_with fail
    ((with_reducible refine (HA.out _ (HG.out _ (Below.refl _ _))).mono ?_); rintro e w1 ⟨rfl, hb1⟩)
    go_wp2
    go_ret
    exact ⟨rfl, hb1⟩
  rw [decide_eq_true h] at HSH
  have hl : s.length ≤ 600000 := by omega
  have H1 := Lib.hid (fun W hW => Load_c s W hW hl)
  have H2 := Lib.hid (fun W => rLoad_c s W hl)
  have hal := loadL_len s
  have H5 := Lib.hid (fun a W (S : SlX W a (Rg.loadL s).1) => lots_c (Rg.loadL s).1 W S (by omega))
  have H6 := Lib.hid (fun a b W (S : SlX W a (Rg.loadL s).1) (T : SlX W b (Rg.loadL s).1) => by have := Same_c (Rg.loadL s).1 (Rg.loadL s).1 W S T (by omega) (by omega); rwa [decide_eq_true rfl] at this)
  have H7 := Lib.hid (fun W hW => Repair_c s W hW hl)
  have H8 := Lib.hid (fun W => rRepair_c s W hl)
  generalize Rg.repairL s = RT at *
  generalize Rg.loadL s = R at *
  obtain ⟨rl, rn, rc⟩ := R
  clear h hal hg hs hl
  go_enter Tryz.func5, Tryz.ntmps5
  go_wp2_with fail
  ((with_reducible refine (HSH.out _).mono ?_); rintro e w1 ⟨rfl, rfl⟩)
  go_wp2_with fail
  ((with_reducible refine (H1.out _ (HG.out _ (Below.refl _ _))).mono ?_); rintro e w1 ⟨v1, rfl, s1, b1⟩)
  have B1 := Lib.hid b1
  have S1 := Lib.hid s1
  clear s1 b1 H1 HSH
  go_wp2_with fail
  ((with_reducible refine (H2.out _).mono ?_); rintro e w2 ⟨v2, rfl, s2, b2⟩)
  have B2 := Lib.hid (B1.out.trans (b2.mono B1.out.size))
  have S2 := Lib.hid (S1.out.later b2)
  have T2 := Lib.hid s2
  clear s2 b2 S1 H2 B1
  go_wp2_with fail
  ((with_reducible refine (HA.out _ (HG.out _ B2.out)).mono ?_); rintro e w3 ⟨rfl, b3⟩)
  have B3 := Lib.hid (B2.out.trans (b3.mono B2.out.size))
  have S3 := Lib.hid (S2.out.later b3)
  have T3 := Lib.hid (T2.out.later b3)
  clear b3 S2 T2 B2
  go_wp2_with fail
  ((with_reducible refine (H5.out _ _ S3.out).mono ?_); rintro e w4 ⟨v4, rfl, s4, b4⟩)
  have B4 := Lib.hid (B3.out.trans (b4.mono B3.out.size))
  have T4 := Lib.hid (T3.out.later b4)
  have X4 := Lib.hid s4
  clear s4 b4 S3 T3 B3
  go_wp2_with fail
  ((with_reducible refine (H6.out _ _ _ X4.out T4.out).mono ?_); rintro e w5 ⟨rfl, b5⟩)
  have B5 := Lib.hid (B4.out.trans (b5.mono B4.out.size))
  clear b5 X4 T4 B4
  go_wp2_with fail
  ((with_reducible refine (H7.out _ (HG.out _ B5.out)).mono ?_); rintro e w6 ⟨rfl, b6⟩)
  have B6 := Lib.hid (B5.out.trans (b6.mono B5.out.size))
  clear b6 B5
  go_wp2_with fail
  ((with_reducible refine (H8.out _).mono ?_); rintro e w7 ⟨rfl, b7⟩)
  have B7 := Lib.hid (B6.out.trans (b7.mono B6.out.size))
  clear b7 B6
  go_wp2
  go_ret
  exact ⟨rfl, B7.out⟩
end Go.Proofs.Wk
