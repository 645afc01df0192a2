/- THE PROGRAM's ARITHMETIC: the quotient and the remainder of texts. -/
import Derived.Test.YtjljappilpkelaaGreatDoorMathY
namespace Go.Proofs.Wk
open Go.RowKit Mt

abbrev ans3 (p : Txt × Txt × Int) : Value := .tuple #[.string ⟨p.1.toArray⟩, .string ⟨p.2.1.toArray⟩, .int .i64 p.2.2]
/-- The quotient, rounded down, and the remainder, of two integers. -/
def prt (m n : Int) : Txt × Txt × Int := if n = 0 then ([], [], 10) else (Lib.itoa (m.fdiv n), Lib.itoa (m.fmod n), 0)
def bin3 (f : Int → Int → Txt × Txt × Int) (a b : Txt) : Txt × Txt × Int := if both a b = 0 then f (val a) (val b) else ([], [], both a b)

theorem itoa_n48 {n : Int} (h : n ≠ 0) : (Lib.itoa n == [48]) = false := by
  rw [beq_eq_false_iff_ne]
  intro e
  have h1 := val_itoa n
  rw [e, ← itoa_zero, val_itoa] at h1
  exact h h1.symm
/-- What small numbers' quotients are. -/
theorem prt_small (m n q r : Int) (h0 : n ≠ 0) (hq : m.fdiv n = q) (hr : m.fmod n = r) : prt m n = (Lib.itoa q, Lib.itoa r, 0) := by
  unfold prt; rw [if_neg h0, hq, hr]

theorem below_drewN {B : Nat} {w w' : World} (h : Below B w w') (k : Nat) : Below B w (w'.drewN k) := ⟨h.os, h.tape, h.output, h.size, h.block⟩
theorem Good.drewN {w : World} (h : Good w) (k : Nat) : Good (w.drewN k) := h.later (below_drewN (Below.refl _ _) k)
set_option maxRecDepth 100000 in
set_option maxHeartbeats 2000000 in
theorem parted_small (m n : Int) (w : World) (hg : Good w) (h0 : n ≠ 0) (hm : (Lib.itoa m).length ≤ 9) (hn : (Lib.itoa n).length ≤ 9) :
    Calls Tryz.prog 48 #[.string ⟨(Lib.itoa m).toArray⟩, .string ⟨(Lib.itoa n).toArray⟩] w (Ret w (ans3 (prt m n))) := by
  obtain ⟨m0, m1⟩ := small_bd hm
  obtain ⟨n0, n1⟩ := small_bd hn
  have lm : (m.natAbs < big) := lng_big_iff.1 (by have := lng_itoa_lo m; omega)
  have ln : (n.natAbs < big) := lng_big_iff.1 (by have := lng_itoa_lo n; omega)
  have hz : both (Lib.itoa m) (Lib.itoa n) = 0 := both_zero.2 ⟨by rw [chk_itoa, if_pos lm], by rw [chk_itoa, if_pos ln]⟩
  have HB := Lib.hid (fun t => allz (Lib.itoa m) (Lib.itoa n) w (lng_txt lm) (lng_txt ln) t)
  rw [hz] at HB
  have hsy := Lib.hid (fun W => small_yes m n W hm hn)
  have hn48 := itoa_n48 h0
  have HG := Lib.hid hg
  have hft := fl_trunc (m := m) h0
  have hb : (m.tmod n).natAbs < n.natAbs := by rw [Int.natAbs_tmod]; exact Nat.mod_lt _ (by omega)
  have hqb : (m.tdiv n).natAbs ≤ m.natAbs := by rw [Int.natAbs_tdiv]; exact Nat.div_le_self _ _
  obtain ⟨q, hq⟩ : ∃ q, m.tdiv n = q := ⟨_, rfl⟩
  obtain ⟨r, hr⟩ : ∃ r, m.tmod n = r := ⟨_, rfl⟩
  rw [hq, hr] at hft
  rw [hr] at hb
  rw [hq] at hqb
  have hrb0 : -1000000000 < r := by omega
  have hrb1 : r < 1000000000 := by omega
  have hqb0 : -1000000000 < q := by omega
  have hqb1 : q < 1000000000 := by omega
  have hft1 := hft.1
  have hft2 := hft.2
  have HF1 := Lib.hid hft1; have HF2 := Lib.hid hft2
  clear hft hft1 hft2 hb hqb hm hn lm ln hz hg
  by_cases hc : r ≠ 0 ∧ ((r < 0) ≠ (n < 0))
  · obtain ⟨e1, e2⟩ := HF1.out hc
    rw [prt_small m n _ _ h0 e1 e2]
    obtain ⟨hr0, hc2⟩ := hc
    have hrb : (r != 0) = true := by rw [bne_iff_ne]; exact hr0
    have hcb : (decide (r < 0) != decide (n < 0)) = true := by
      rw [bne_iff_ne]; intro e; exact hc2 (propext (decide_eq_decide.1 e))
    have hcc : (r < 0 ∧ 0 ≤ n) ∨ (0 ≤ r ∧ n < 0) := by
      by_cases h1 : r < 0 <;> by_cases h2 : n < 0
      · simp [h1, h2] at hcb
      · exact .inl ⟨h1, by omega⟩
      · exact .inr ⟨by omega, h2⟩
      · simp [h1, h2] at hcb
    have hof1 := Lib.hid (fun W hW => wOf_c (q - 1) W hW (by omega) (by omega))
    have hof2 := Lib.hid (fun W hW => wOf_c (r + n) W hW (by omega) (by omega))
    clear e1 e2 hcb hc2 HF1 HF2
    rcases hcc with ⟨hs1, hs2⟩ | ⟨hs1, hs2⟩
    · have hd1 : decide (n < 0) = false := decide_eq_false (by omega)
      have hd2 : decide (r < 0) = true := decide_eq_true hs1
      go_enter Tryz.func48, Tryz.ntmps48
      go_wp2_with fail
      refine (HB.out _).mono ?_; rintro e w1 ⟨rfl, hb1⟩
      go_wp2_with fail
      refine (hsy.out _).mono ?_; rintro e w2 ⟨rfl, hb2⟩
      have hB2 := hb1.trans (hb2.mono hb1.size)
      go_wp2_with fail
      go_quiet (fail)
      go_wp2_with fail
      refine (hof1.out _ ((HG.out.later hB2).drewN nq)).mono ?_; rintro e w3 ⟨rfl, hb3⟩
      have hB3 := (below_drewN hB2 nq).trans (hb3.mono hB2.size)
      go_wp2_with fail
      refine (hof2.out _ (HG.out.later hB3)).mono ?_; rintro e w4 ⟨rfl, hb4⟩
      go_wp2
      go_ret3
      exact ⟨rfl, hB3.trans (hb4.mono hB3.size)⟩
    · have hd1 : decide (n < 0) = true := decide_eq_true hs2
      have hd2 : decide (r < 0) = false := decide_eq_false (by omega)
      go_enter Tryz.func48, Tryz.ntmps48
      go_wp2_with fail
      refine (HB.out _).mono ?_; rintro e w1 ⟨rfl, hb1⟩
      go_wp2_with fail
      refine (hsy.out _).mono ?_; rintro e w2 ⟨rfl, hb2⟩
      have hB2 := hb1.trans (hb2.mono hb1.size)
      go_wp2_with fail
      go_quiet (fail)
      go_wp2_with fail
      refine (hof1.out _ ((HG.out.later hB2).drewN nq)).mono ?_; rintro e w3 ⟨rfl, hb3⟩
      have hB3 := (below_drewN hB2 nq).trans (hb3.mono hB2.size)
      go_wp2_with fail
      refine (hof2.out _ (HG.out.later hB3)).mono ?_; rintro e w4 ⟨rfl, hb4⟩
      go_wp2
      go_ret3
      exact ⟨rfl, hB3.trans (hb4.mono hB3.size)⟩
  · obtain ⟨e1, e2⟩ := HF2.out hc
    rw [prt_small m n _ _ h0 e1 e2]
    have hcc : r = 0 ∨ (r ≠ 0 ∧ r < 0 ∧ n < 0) ∨ (r ≠ 0 ∧ 0 ≤ r ∧ 0 ≤ n) := by
      by_cases h3 : r = 0
      · exact .inl h3
      · by_cases h1 : r < 0 <;> by_cases h2 : n < 0
        · exact .inr (.inl ⟨h3, h1, h2⟩)
        · exact absurd ⟨h3, by simp [h1, h2]⟩ hc
        · exact absurd ⟨h3, by simp [h1, h2]⟩ hc
        · exact .inr (.inr ⟨h3, by omega, by omega⟩)
    have hof1 := Lib.hid (fun W hW => wOf_c q W hW (by omega) (by omega))
    have hof2 := Lib.hid (fun W hW => wOf_c r W hW (by omega) (by omega))
    clear e1 e2 hc HF1 HF2
    rcases hcc with hr0 | ⟨hr0, hs1, hs2⟩ | ⟨hr0, hs1, hs2⟩
    · subst hr0
      go_enter Tryz.func48, Tryz.ntmps48
      go_wp2_with fail
      refine (HB.out _).mono ?_; rintro e w1 ⟨rfl, hb1⟩
      go_wp2_with fail
      refine (hsy.out _).mono ?_; rintro e w2 ⟨rfl, hb2⟩
      have hB2 := hb1.trans (hb2.mono hb1.size)
      go_wp2_with fail
      go_quiet (fail)
      go_wp2_with fail
      refine (hof1.out _ ((HG.out.later hB2).drewN nq)).mono ?_; rintro e w3 ⟨rfl, hb3⟩
      have hB3 := (below_drewN hB2 nq).trans (hb3.mono hB2.size)
      go_wp2_with fail
      refine (hof2.out _ (HG.out.later hB3)).mono ?_; rintro e w4 ⟨rfl, hb4⟩
      go_wp2
      go_ret3
      exact ⟨rfl, hB3.trans (hb4.mono hB3.size)⟩
    · have hrb : (r != 0) = true := by rw [bne_iff_ne]; exact hr0
      have hd1 : decide (n < 0) = true := decide_eq_true hs2
      have hd2 : decide (r < 0) = true := decide_eq_true hs1
      go_enter Tryz.func48, Tryz.ntmps48
      go_wp2_with fail
      refine (HB.out _).mono ?_; rintro e w1 ⟨rfl, hb1⟩
      go_wp2_with fail
      refine (hsy.out _).mono ?_; rintro e w2 ⟨rfl, hb2⟩
      have hB2 := hb1.trans (hb2.mono hb1.size)
      go_wp2_with fail
      go_quiet (fail)
      go_wp2_with fail
      refine (hof1.out _ ((HG.out.later hB2).drewN nq)).mono ?_; rintro e w3 ⟨rfl, hb3⟩
      have hB3 := (below_drewN hB2 nq).trans (hb3.mono hB2.size)
      go_wp2_with fail
      refine (hof2.out _ (HG.out.later hB3)).mono ?_; rintro e w4 ⟨rfl, hb4⟩
      go_wp2
      go_ret3
      exact ⟨rfl, hB3.trans (hb4.mono hB3.size)⟩
    · have hrb : (r != 0) = true := by rw [bne_iff_ne]; exact hr0
      have hd1 : decide (n < 0) = false := decide_eq_false (by omega)
      have hd2 : decide (r < 0) = false := decide_eq_false (by omega)
      go_enter Tryz.func48, Tryz.ntmps48
      go_wp2_with fail
      refine (HB.out _).mono ?_; rintro e w1 ⟨rfl, hb1⟩
      go_wp2_with fail
      refine (hsy.out _).mono ?_; rintro e w2 ⟨rfl, hb2⟩
      have hB2 := hb1.trans (hb2.mono hb1.size)
      go_wp2_with fail
      go_quiet (fail)
      go_wp2_with fail
      refine (hof1.out _ ((HG.out.later hB2).drewN nq)).mono ?_; rintro e w3 ⟨rfl, hb3⟩
      have hB3 := (below_drewN hB2 nq).trans (hb3.mono hB2.size)
      go_wp2_with fail
      refine (hof2.out _ (HG.out.later hB3)).mono ?_; rintro e w4 ⟨rfl, hb4⟩
      go_wp2
      go_ret3
      exact ⟨rfl, hB3.trans (hb4.mono hB3.size)⟩
end Go.Proofs.Wk
