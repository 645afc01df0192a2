/- STRAIGHTNESS: what holds of the least width. Plain. -/
import Derived.Test.YtjopphkhpmoedaaGreatDoorNP
namespace Go.Proofs.Wk
open Go.RowKit Mt

theorem least_ex {ls : List St.Pt} (h : St.same ls = false) : ∃ z, St.least ls = some z := by
  cases q : St.least ls with
  | some z => exact ⟨z, rfl⟩
  | none =>
    have := St.same_iff.2 (St.all_same (St.least_none q))
    rw [h] at this; cases this
theorem least_non {ls : List St.Pt} (h : St.same ls = true) : St.least ls = none := St.same_none (St.same_iff.1 h)
theorem least_idx {ls : List St.Pt} (h0 : 0 < ls.length) : bsI (St.least ls) < ls.length ∧ bsJ (St.least ls) < ls.length ∧ bsF (St.least ls) < ls.length := by
  cases q : St.least ls with
  | none => exact ⟨h0, h0, h0⟩
  | some z =>
    obtain ⟨h1, h2, h3, h4, h5, h6, h7⟩ := St.least_pair q
    refine ⟨?_, h2, ?_⟩
    · show z.i < _; omega
    · show z.far < _
      obtain ⟨-, -, h8⟩ := St.prf_area ls z.i z.j
      rw [← h5] at h8
      rcases h8 with ⟨-, h8⟩ | ⟨h8, -⟩
      · omega
      · exact h8
theorem least_ver {ls : List St.Pt} (h0 : 0 < ls.length) : ver ls (rtoa (St.wid ls)) (bsI (St.least ls)) (bsJ (St.least ls)) (bsF (St.least ls)) = true := by
  cases hs : St.same ls with
  | true => rw [ver_same hs, same_wid hs, least_non hs]; rfl
  | false =>
    obtain ⟨z, q⟩ := least_ex hs
    obtain ⟨h1, h2, h3, h4, h5, h6, h7⟩ := St.least_pair q
    rw [q]
    show ver ls _ z.i z.j z.far = true
    have hw : St.wv ls (St.prf ls z.i z.j) = St.wid ls := by rw [← h5, h7]; rfl
    rw [ver_all hs rfl h4 (by rw [hw]), decide_eq_true_eq]
    obtain ⟨-, h9, h8⟩ := St.prf_area ls z.i z.j
    rw [← h5] at h8 h9 ⊢
    unfold vLeft
    rcases h8 with ⟨h8, h10⟩ | ⟨h8, h10⟩
    · have := h9 _ (St.at_mem (l := ls) (i := z.far) (by omega))
      rw [h8] at this ⊢
      omega
    · exact h10.symm
theorem least_acr {ls : List St.Pt} (h : St.same ls = false) : St.at_ ls (bsI (St.least ls)) ≠ St.at_ ls (bsJ (St.least ls)) ∧
    St.wq (St.acr ls (St.at_ ls (bsI (St.least ls))) (St.at_ ls (bsJ (St.least ls)))) (St.at_ ls (bsI (St.least ls))) (St.at_ ls (bsJ (St.least ls))) = St.wid ls := by
  obtain ⟨z, q⟩ := least_ex h
  obtain ⟨h1, h2, h3, h4, h5, h6, h7⟩ := St.least_pair q
  rw [q]
  refine ⟨h3, ?_⟩
  show St.wq (St.acr ls (St.at_ ls z.i) (St.at_ ls z.j)) (St.at_ ls z.i) (St.at_ ls z.j) = _
  rw [h6, h7]
theorem verE_least {ls : List St.Pt} (h0 : St.givP ls = 0) (h1 : 0 < ls.length) (hin : ∀ p ∈ ls, St.InP p) :
    verE ls (rtoa (St.wid ls)) (bsI (St.least ls) : Int) (bsJ (St.least ls) : Int) (bsF (St.least ls) : Int) = (true, 0) := by
  obtain ⟨a, b, c⟩ := least_idx h1
  rw [verE_ok h0 (rchk_rtoa ((wid_sz hin).ok (by decide))) ⟨⟨by omega, by omega⟩, ⟨by omega, by omega⟩, ⟨by omega, by omega⟩⟩]
  simp only [Int.toNat_natCast]
  rw [least_ver h1]
theorem acr_sz {ls : List St.Pt} (hin : ∀ p ∈ ls, St.InP p) (h0 : 0 < ls.length) {a b : St.Pt} (ha : St.InP a) (hb : St.InP b) (h : a ≠ b) : szQ (St.wq (St.acr ls a b) a b) 24 := by
  have := acr_bd hin h0 ha hb
  exact wq_szQ (by omega) (St.far_bd ha hb).2.2.2 h
end Go.Proofs.Wk
