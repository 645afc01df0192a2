/- SQUARENESS: the zone's own proof verifies; the ways that the law looks at: plain laws. -/
import Derived.Test.YtenoganbeccanaaGreatDoorLoF
import Derived.Test.YtenoganbeccanaaGreatDoorOK
namespace Go.Proofs.Wk
open Go.RowKit Mt

section
variable {ls : List Or.P3} {d : Or.P3}
/-- The zone's own proof verifies. -/
theorem own_lt (h0 : 0 < ls.length) : Or.prI (Or.least ls d) < ls.length ∧ Or.prJ (Or.least ls d) < ls.length ∧ Or.prK (Or.least ls d) < ls.length := by
  cases h : Or.least ls d with
  | none => exact ⟨h0, h0, h0⟩
  | some z =>
    obtain ⟨h1, h2, -⟩ := Or.wid_par h
    exact ⟨Nat.lt_trans h1 h2, h2, (Or.ver_own h).1⟩
theorem pvO_own (hd : d ≠ ⟨0, 0, 0⟩) (h0 : 0 < ls.length) : pvO ls d (rtoa (Or.wid ls d)) (Or.prI (Or.least ls d)) (Or.prJ (Or.least ls d)) (Or.prK (Or.least ls d)) = true := by
  unfold pvO
  cases h : Or.least ls d with
  | none =>
    rw [if_pos (Or.least_lined hd h0 h)]
    have e : Or.wid ls d = 0 := by unfold Or.wid; rw [h]
    rw [e, rtoa_zero]
    simp [Or.prI, Or.prJ, Or.prK]
  | some z =>
    have hl : ¬ Or.lined ls d = true := fun hl => by rw [Or.lined_least hl] at h; cases h
    rw [if_neg hl]
    obtain ⟨h1, h2, h3, h4, h5, h6, h7⟩ := Or.wid_par h
    obtain ⟨g1, g2⟩ := Or.ver_own h
    simp only [Or.prI, Or.prJ, Or.prK]
    have e1 : Or.sv ls d (Or.sup ls d z.i z.j) = Or.wid ls d := by rw [← h5, h6]
    have e2 : hgQ ls d z.i z.j z.at' = Or.wid ls d := by
      rw [h6]
      unfold hgQ hgtN Or.sv Or.sq
      rw [← g2]
      rfl
    rw [h3]
    simp only [Bool.true_and, Bool.and_eq_true]
    exact ⟨decide_eq_true (congrArg rtoa e1), decide_eq_true h1, decide_eq_true (congrArg rtoa e2)⟩
theorem vuE_own (h : highE ls d = 0) : vuE ls d (rtoa (Or.wid ls d)) (Or.prI (Or.least ls d) : Int) (Or.prJ (Or.least ls d) : Int) (Or.prK (Or.least ls d) : Int) = (true, 0) := by
  obtain ⟨l0, l64, hin, hd, hne⟩ := highE_ok h
  obtain ⟨i1, i2, i3⟩ := own_lt (d := d) l0
  have hx : ∀ n : Nat, n < ls.length → idxO ls (n : Int) := fun n hn => ⟨by omega, by omega⟩
  rw [vuE_ok h (rchk_rtoa ((wid_szO hd hin).ok (by decide))) ⟨hx _ i1, hx _ i2, hx _ i3⟩, Int.toNat_natCast, Int.toNat_natCast, Int.toNat_natCast, pvO_own hne l0]
  simp
/-- The way that the law looks at in round i. -/
def wayL (ls : List Or.P3) (d v : Or.P3) (i : Nat) : Or.P3 := if i = 0 then v else Or.sub (Or.at_ ls (Or.prJ (Or.least ls d))) (Or.at_ ls (Or.prI (Or.least ls d)))
theorem way_le {v : Or.P3} {i : Nat} (h0 : 0 < ls.length) (hn : Or.crs d (wayL ls d v i) ≠ ⟨0, 0, 0⟩) :
    cmpQ (Or.wid ls d) (Or.par ls (Or.crs d (wayL ls d v i))) ≤ 0 ∧ (i ≠ 0 → cmpQ (Or.wid ls d) (Or.par ls (Or.crs d (wayL ls d v i))) = 0) := by
  have hl : ls ≠ [] := by rintro rfl; simp at h0
  refine ⟨?_, fun hi => ?_⟩
  · have := cmpQ_le (Or.wid ls d) (Or.par ls (Or.crs d (wayL ls d v i)))
    rw [decide_eq_true (Or.wid_le_par hl hn)] at this
    exact of_decide_eq_true this
  · unfold wayL at hn ⊢
    rw [if_neg hi] at hn ⊢
    cases h : Or.least ls d with
    | none =>
      exfalso
      apply hn
      rw [h]
      unfold Or.crs Or.sub Or.prI Or.prJ
      simp
    | some z =>
      obtain ⟨-, -, -, -, -, -, h7⟩ := Or.wid_par h
      rw [h] at hn
      simp only [Or.prI, Or.prJ]
      rw [← h7, cmpQ_sub, show Or.wid ls d - Or.wid ls d = 0 by grind]
      rfl
theorem parallel_val {n : Or.P3} (h : highE ls n = 0) : ∃ i j : Nat, parallelV ls n = .tuple #[.string ⟨(rtoa (Or.par ls n)).toArray⟩, .agg #[.int .i64 (i : Int), .int .i64 (j : Int)], .int .i64 0] := ⟨_, _, if_pos h⟩
theorem par_szO {n : Or.P3} (h0 : 0 < ls.length) (hin : ∀ p ∈ ls, InS p) (hd : InS n) (hne : n ≠ ⟨0, 0, 0⟩) : szQ (Or.par ls n) 42 := par_sz h0 hd hne hin
end
end Go.Proofs.Wk
