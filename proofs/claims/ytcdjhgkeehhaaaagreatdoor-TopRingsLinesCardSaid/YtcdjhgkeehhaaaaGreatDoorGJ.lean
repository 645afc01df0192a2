/- THE PROGRAM's ARITHMETIC: the quotient and the remainder of texts. -/
import Derived.Test.YtcdjhgkeehhaaaaGreatDoorGI
namespace Go.Proofs.Wk
open Go.RowKit Mt

abbrev ans3 (p : Txt × Txt × Int) : Value := .tuple #[.string ⟨p.1.toArray⟩, .string ⟨p.2.1.toArray⟩, .int .i64 p.2.2]
/-- The quotient, rounded down, and the remainder, of two integers. -/
def prt (m n : Int) : Txt × Txt × Int := if n = 0 then ([], [], 10) else (Lib.itoa (m.fdiv n), Lib.itoa (m.fmod n), 0)
def bin3 (f : Int → Int → Txt × Txt × Int) (a b : Txt) : Txt × Txt × Int := if both a b = 0 then f (val a) (val b) else ([], [], both a b)

theorem itoa_n48 {n : Int} (h : n ≠ 0) : (Lib.itoa n == [48]) = false := by
  rw [beq_eq_false_iff_ne]
  intro e
  have h1 := val_itoa n
  rw [e, ← itoa_zero, val_itoa] at h1
  exact h h1.symm
/-- What small numbers' quotients are. -/
theorem prt_small (m n q r : Int) (h0 : n ≠ 0) (hq : m.fdiv n = q) (hr : m.fmod n = r) : prt m n = (Lib.itoa q, Lib.itoa r, 0) := by
  unfold prt; rw [if_neg h0, hq, hr]

theorem below_drewN {B : Nat} {w w' : World} (h : Below B w w') (k : Nat) : Below B w (w'.drewN k) := ⟨h.os, h.tape, h.output, h.size, h.block⟩
theorem Good.drewN {w : World} (h : Good w) (k : Nat) : Good (w.drewN k) := h.later (below_drewN (Below.refl _ _) k)
set_option maxRecDepth 100000 in
set_option maxHeartbeats 2000000 in
theorem parted_small (m n : Int) (w : World) (hg : Good w) (h0 : n ≠ 0) (hm : (Lib.itoa m).length ≤ 9) (hn : (Lib.itoa n).length ≤ 9) :
    Calls Tryz.prog 151 #[.string ⟨(Lib.itoa m).toArray⟩, .string ⟨(Lib.itoa n).toArray⟩] w (Ret w (ans3 (prt m n))) := by
  obtain ⟨m0, m1⟩ := small_bd hm
  obtain ⟨n0, n1⟩ := small_bd hn
  have lm : (m.natAbs < big) := lng_big_iff.1 (by have := lng_itoa_lo m; omega)
  have ln : (n.natAbs < big) := lng_big_iff.1 (by have := lng_itoa_lo n; omega)
  have hz : both (Lib.itoa m) (Lib.itoa n) = 0 := both_zero.2 ⟨by rw [chk_itoa, if_pos lm], by rw [chk_itoa, if_pos ln]⟩
  have HB := Lib.hid (fun t => allz (Lib.itoa m) (Lib.itoa n) w (lng_txt lm) (lng_txt ln) t)
  rw [hz] at HB
  have hsy := Lib.hid (fun W => small_yes m n W hm hn)
  have hn48 := itoa_n48 h0
  have HG := Lib.hid hg
  have hft := fl_trunc (m := m) h0
  have hb : (m.tmod n).natAbs < n.natAbs := by rw [Int.natAbs_tmod]; exact Nat.mod_lt _ (by omega)
  have hqb : (m.tdiv n).natAbs ≤ m.natAbs := by rw [Int.natAbs_tdiv]; exact Nat.div_le_self _ _
  obtain ⟨q, hq⟩ : ∃ q, m.tdiv n = q := ⟨_, rfl⟩
  obtain ⟨r, hr⟩ : ∃ r, m.tmod n = r := ⟨_, rfl⟩
  rw [hq, hr] at hft
  rw [hr] at hb
  rw [hq] at hqb
  have hrb0 : -1000000000 < r := by omega
  have hrb1 : r < 1000000000 := by omega
  have hqb0 : -1000000000 < q := by omega
  have hqb1 : q < 1000000000 := by omega
  have hft1 := hft.1
  have hft2 := hft.2
  have HF1 := Lib.hid hft1; have HF2 := Lib.hid hft2
  clear hft hft1 hft2 hb hqb hm hn lm ln hz hg
  by_cases hc : r ≠ 0 ∧ ((r < 0) ≠ (n < 0))
  · obtain ⟨e1, e2⟩ := HF1.out hc
    rw [prt_small m n _ _ h0 e1 e2]
    obtain ⟨hr0, hc2⟩ := hc
    have hrb : (r != 0) = true := by rw [bne_iff_ne]; exact hr0
    have hcb : (decide (r < 0) != decide (n < 0)) = true := by
      rw [bne_iff_ne]; intro e; exact hc2 (propext (decide_eq_decide.1 e))
    have hcc : (r < 0 ∧ 0 ≤ n) ∨ (0 ≤ r ∧ n < 0) := by
      by_cases h1 : r < 0 <;> by_cases h2 : n < 0
      · simp [h1, h2] at hcb
      · exact .inl ⟨h1, by omega⟩
      · exact .inr ⟨by omega, h2⟩
      · simp [h1, h2] at hcb
    have hof1 := Lib.hid (fun W hW => wOf_c (q - 1) W hW (by omega) (by omega))
    have hof2 := Lib.hid (fun W hW => wOf_c (r + n) W hW (by omega) (by omega))
    clear e1 e2 hcb hc2 HF1 HF2
    rcases hcc with ⟨hs1, hs2⟩ | ⟨hs1, hs2⟩
    · have hd1 : decide (n < 0) = false := decide_eq_false (by omega)
      have hd2 : decide (r < 0) = true := decide_eq_true hs1
      go_enter Tryz.func151, Tryz.ntmps151
      go_wp2_with fail
      refine (HB.out _).mono ?_; rintro e w1 ⟨rfl, hb1⟩
      go_wp2_with fail
      refine (hsy.out _).mono ?_; rintro e w2 ⟨rfl, hb2⟩
      have hB2 := hb1.trans (hb2.mono hb1.size)
      go_wp2_with fail
      go_quiet (fail)
      go_wp2_with fail
      refine (hof1.out _ ((HG.out.later hB2).drewN nq)).mono ?_; rintro e w3 ⟨rfl, hb3⟩
      have hB3 := (below_drewN hB2 nq).trans (hb3.mono hB2.size)
      go_wp2_with fail
      refine (hof2.out _ (HG.out.later hB3)).mono ?_; rintro e w4 ⟨rfl, hb4⟩
      go_wp2
      go_ret3
      exact ⟨rfl, hB3.trans (hb4.mono hB3.size)⟩
    · have hd1 : decide (n < 0) = true := decide_eq_true hs2
      have hd2 : decide (r < 0) = false := decide_eq_false (by omega)
      go_enter Tryz.func151, Tryz.ntmps151
      go_wp2_with fail
      refine (HB.out _).mono ?_; rintro e w1 ⟨rfl, hb1⟩
      go_wp2_with fail
      refine (hsy.out _).mono ?_; rintro e w2 ⟨rfl, hb2⟩
      have hB2 := hb1.trans (hb2.mono hb1.size)
      go_wp2_with fail
      go_quiet (fail)
      go_wp2_with fail
      refine (hof1.out _ ((HG.out.later hB2).drewN nq)).mono ?_; rintro e w3 ⟨rfl, hb3⟩
      have hB3 := (below_drewN hB2 nq).trans (hb3.mono hB2.size)
      go_wp2_with fail
      refine (hof2.out _ (HG.out.later hB3)).mono ?_; rintro e w4 ⟨rfl, hb4⟩
      go_wp2
      go_ret3
      exact ⟨rfl, hB3.trans (hb4.mono hB3.size)⟩
  · obtain ⟨e1, e2⟩ := HF2.out hc
    rw [prt_small m n _ _ h0 e1 e2]
    have hcc : r = 0 ∨ (r ≠ 0 ∧ r < 0 ∧ n < 0) ∨ (r ≠ 0 ∧ 0 ≤ r ∧ 0 ≤ n) := by
      by_cases h3 : r = 0
      · exact .inl h3
      · by_cases h1 : r < 0 <;> by_cases h2 : n < 0
        · exact .inr (.inl ⟨h3, h1, h2⟩)
        · exact absurd ⟨h3, by simp [h1, h2]⟩ hc
        · exact absurd ⟨h3, by simp [h1, h2]⟩ hc
        · exact .inr (.inr ⟨h3, by omega, by omega⟩)
    have hof1 := Lib.hid (fun W hW => wOf_c q W hW (by omega) (by omega))
    have hof2 := Lib.hid (fun W hW => wOf_c r W hW (by omega) (by omega))
    clear e1 e2 hc HF1 HF2
    rcases hcc with hr0 | ⟨hr0, hs1, hs2⟩ | ⟨hr0, hs1, hs2⟩
    · subst hr0
      go_enter Tryz.func151, Tryz.ntmps151
      go_wp2_with fail
      refine (HB.out _).mono ?_; rintro e w1 ⟨rfl, hb1⟩
      go_wp2_with fail
      refine (hsy.out _).mono ?_; rintro e w2 ⟨rfl, hb2⟩
      have hB2 := hb1.trans (hb2.mono hb1.size)
      go_wp2_with fail
      go_quiet (fail)
      go_wp2_with fail
      refine (hof1.out _ ((HG.out.later hB2).drewN nq)).mono ?_; rintro e w3 ⟨rfl, hb3⟩
      have hB3 := (below_drewN hB2 nq).trans (hb3.mono hB2.size)
      go_wp2_with fail
      refine (hof2.out _ (HG.out.later hB3)).mono ?_; rintro e w4 ⟨rfl, hb4⟩
      go_wp2
      go_ret3
      exact ⟨rfl, hB3.trans (hb4.mono hB3.size)⟩
    · have hrb : (r != 0) = true := by rw [bne_iff_ne]; exact hr0
      have hd1 : decide (n < 0) = true := decide_eq_true hs2
      have hd2 : decide (r < 0) = true := decide_eq_true hs1
      go_enter Tryz.func151, Tryz.ntmps151
      go_wp2_with fail
      refine (HB.out _).mono ?_; rintro e w1 ⟨rfl, hb1⟩
      go_wp2_with fail
      refine (hsy.out _).mono ?_; rintro e w2 ⟨rfl, hb2⟩
      have hB2 := hb1.trans (hb2.mono hb1.size)
      go_wp2_with fail
      go_quiet (fail)
      go_wp2_with fail
      refine (hof1.out _ ((HG.out.later hB2).drewN nq)).mono ?_; rintro e w3 ⟨rfl, hb3⟩
      have hB3 := (below_drewN hB2 nq).trans (hb3.mono hB2.size)
      go_wp2_with fail
      refine (hof2.out _ (HG.out.later hB3)).mono ?_; rintro e w4 ⟨rfl, hb4⟩
      go_wp2
      go_ret3
      exact ⟨rfl, hB3.trans (hb4.mono hB3.size)⟩
    · have hrb : (r != 0) = true := by rw [bne_iff_ne]; exact hr0
      have hd1 : decide (n < 0) = false := decide_eq_false (by omega)
      have hd2 : decide (r < 0) = false := decide_eq_false (by omega)
      go_enter Tryz.func151, Tryz.ntmps151
      go_wp2_with fail
      refine (HB.out _).mono ?_; rintro e w1 ⟨rfl, hb1⟩
      go_wp2_with fail
      refine (hsy.out _).mono ?_; rintro e w2 ⟨rfl, hb2⟩
      have hB2 := hb1.trans (hb2.mono hb1.size)
      go_wp2_with fail
      go_quiet (fail)
      go_wp2_with fail
      refine (hof1.out _ ((HG.out.later hB2).drewN nq)).mono ?_; rintro e w3 ⟨rfl, hb3⟩
      have hB3 := (below_drewN hB2 nq).trans (hb3.mono hB2.size)
      go_wp2_with fail
      refine (hof2.out _ (HG.out.later hB3)).mono ?_; rintro e w4 ⟨rfl, hb4⟩
      go_wp2
      go_ret3
      exact ⟨rfl, hB3.trans (hb4.mono hB3.size)⟩
end Go.Proofs.Wk
/- THE PROGRAM's ARITHMETIC: the quotient and the remainder of long texts. -/
namespace Go.Proofs.Wk
open Go.RowKit Mt

theorem prt_sg {sx sy : Bool} {X Y : Nat} (hY : Y ≠ 0) (h : X % Y = 0 ∨ sx = sy) : prt (sg sx X) (sg sy Y) = (Lib.itoa (sg (sx != sy) (X / Y)), Lib.itoa (sg sx (X % Y)), 0) :=
  prt_small _ _ _ _ (by cases sy <;> simp [sg] <;> omega) (fl_same hY h).1 (fl_same hY h).2
theorem prt_sg2 {sx sy : Bool} {X Y : Nat} (hY : Y ≠ 0) (h : X % Y ≠ 0) (hs : sx ≠ sy) : prt (sg sx X) (sg sy Y) = (Lib.itoa (sg true (X / Y + 1)), Lib.itoa (sg sy (Y - X % Y)), 0) :=
  prt_small _ _ _ _ (by cases sy <;> simp [sg] <;> omega) (fl_other hY h hs).1 (fl_other hY h hs).2

/-- Signs are written into two blocks. -/
theorem CW.set0 {w : World} {b : Nat} {s : Bool} {m : Nat} (h : CW w b s m) (s' : Bool) : CW (w.setCell ⟨b, 0, none⟩ (.bool s')) b s' m := ⟨h.1, h.2.set0 s' rfl⟩
theorem CW.other {w : World} {b : Nat} {s : Bool} {m : Nat} (h : CW w b s m) (g o : Nat) (v : Value) (hne : b ≠ g) : CW (w.setCell ⟨g, o, none⟩ v) b s m :=
  h.kept (gb_set (gb_refl w (some g)) o v) (by simp [hne])

theorem one_wb (w : World) : WB (w.alloc (.cells ((Tryz.zeroCells160.setIfInBounds 0 (.bool true)).setIfInBounds 1 (.int .i64 1)) 160)) w.heap.size true 1 (wds 0) := by
  refine ⟨wds_length 0, (heap_alloc_new w _).trans ?_⟩
  rw [zero_cells]
  simp [wcells]
theorem one_max : 1 < wmax := wmax_le.2 (by rw [wlen_pos (by omega), show (1 : Nat) / 1000000000 = 0 from rfl, wlen_zero]; omega)
theorem wds_one : (wds 0).set 0 1 = wds 1 := by
  rw [wds_def, wds_def]
  show (((0 % 1000000000 : Nat) : Int) :: wdsN 231 (0 / 1000000000)).set 0 1 = ((1 % 1000000000 : Nat) : Int) :: wdsN 231 (1 / 1000000000)
  rw [show (0 : Nat) / 1000000000 = 0 from rfl, List.set_cons_zero]
  rfl
theorem addS_one (Q : Nat) : addS true Q true 1 = (true, Q + 1) := by simp [addS]
theorem addS_less {sx sy : Bool} {R Y : Nat} (h : sx ≠ sy) (hr : R < Y) : addS sx R sy Y = (sy, Y - R) := by unfold addS; rw [if_neg h, if_neg (by omega)]
theorem wlen_one : wlen 1 = 1 := by rw [wlen_pos (by omega), show (1 : Nat) / 1000000000 = 0 from rfl, wlen_zero]

set_option maxRecDepth 100000 in
set_option maxHeartbeats 2000000 in
theorem parted_big (m n : Int) (w : World) (hg : Good w) (h0 : n ≠ 0) (lm : m.natAbs < big) (ln : n.natAbs < big) (hs : ¬ ((Lib.itoa m).length ≤ 9 ∧ (Lib.itoa n).length ≤ 9)) :
    Calls Tryz.prog 151 #[.string ⟨(Lib.itoa m).toArray⟩, .string ⟨(Lib.itoa n).toArray⟩] w (Ret w (ans3 (prt m n))) := by
  have hz : both (Lib.itoa m) (Lib.itoa n) = 0 := both_zero.2 ⟨by rw [chk_itoa, if_pos lm], by rw [chk_itoa, if_pos ln]⟩
  have HB := Lib.hid (fun t => allz (Lib.itoa m) (Lib.itoa n) w (lng_txt lm) (lng_txt ln) t)
  rw [hz] at HB
  have hsn := Lib.hid (fun W => small_no (Lib.itoa m) (Lib.itoa n) W hs)
  have hn48 := itoa_n48 h0
  have HG := Lib.hid hg
  have HRM := Lib.hid (fun W => read_c m W (by have := lng_big lm; omega))
  have HRN := Lib.hid (fun W => read_c n W (by have := lng_big ln; omega))
  have hY0 : n.natAbs ≠ 0 := by omega
  have hYl : wlen n.natAbs ≤ 231 := (wlen_le 231 _).2 (Nat.lt_of_lt_of_le (big_words ln) (Nat.pow_le_pow_right (by omega) (by omega)))
  rw [show prt m n = prt (sg (decide (m < 0)) m.natAbs) (sg (decide (n < 0)) n.natAbs) by rw [sg_int, sg_int]]
  obtain ⟨sx, hsx⟩ : ∃ s, decide (m < 0) = s := ⟨_, rfl⟩
  obtain ⟨sy, hsy⟩ : ∃ s, decide (n < 0) = s := ⟨_, rfl⟩
  have hmw := big_words lm
  have hnw := big_words ln
  obtain ⟨X, hX⟩ : ∃ X, m.natAbs = X := ⟨_, rfl⟩
  obtain ⟨Y, hY⟩ : ∃ Y, n.natAbs = Y := ⟨_, rfl⟩
  rw [hsx, hX] at HRM ⊢
  rw [hsy, hY] at HRN ⊢
  rw [hY] at hY0 hYl hnw
  rw [hX] at hmw
  have HMW := Lib.hid hmw; have HNW := Lib.hid hnw
  clear hmw hnw
  have HY0 := Lib.hid hY0; have HYL := Lib.hid hYl
  clear hs hg lm ln hz hsx hsy hX hY hY0 hYl
  go_enter Tryz.func151, Tryz.ntmps151
  go_wp2_with fail
  refine (HB.out _).mono ?_; rintro e w1 ⟨rfl, hb1⟩
  go_wp2_with fail
  refine (hsn.out _).mono ?_; rintro e w2 ⟨rfl, rfl⟩
  go_wp2_with fail
  refine (HRM.out _).mono ?_; rintro e w3 ⟨g, rfl, hgg, hC, hb3⟩
  have hB3 := hb1.trans (hb3.mono hb1.size)
  have HC := Lib.hid hC
  have hglt := hC.lt
  clear hC
  go_wp2_with fail
  refine (HRN.out _).mono ?_; rintro e w4 ⟨g2, rfl, hgg2, hC2, hb4⟩
  have hB4 := hB3.trans (hb4.mono hB3.size)
  have HC2 := Lib.hid hC2
  have hglt2 := hC2.lt
  have HC1 := Lib.hid (HC.out.later hb4 hglt)
  clear hC2
  have hs4 := hb4.size
  go_wp2_with fail
  refine (divided_c g g2 sx sy X Y _ HC1.out HC2.out HY0.out HYL.out).mono ?_; rintro e w5 ⟨gq, gr, rfl, hgq, hgr, hqr, hCq, hCr, hb5⟩
  have hB5 := hB4.trans (hb5.mono hB4.size)
  have hCx := HC1.out.later hb5 (by omega)
  have hCy := HC2.out.later hb5 hglt2
  have cx := hCx.2.c0
  have cy := hCy.2.c0
  have cq := hCq.2.c0
  have cr := hCr.2.c0
  have fq := hCq.2.free 0
  have fr := hCr.2.free 0
  have HCX := Lib.hid hCx; have HCY := Lib.hid hCy; have HCQ := Lib.hid hCq; have HCR := Lib.hid hCr
  have n1 : g ≠ gq := by omega
  have n2 : g ≠ gr := by omega
  have n3 : g2 ≠ gq := by omega
  have n4 : g2 ≠ gr := by omega
  have n5 : gr ≠ gq := fun e => hqr e.symm
  have n6 : gq ≠ g := n1.symm
  have n7 : gr ≠ g := n2.symm
  have n8 : gq ≠ g2 := n3.symm
  have n9 : gr ≠ g2 := n4.symm
  clear hCx hCy hCq hCr
  go_wp2_with fail
  go_upto_region 15 with fail
  go_cut [13, 14, 15, 16] (fun s13 s14 s15 s16 wx => s13 = .pointer (some ⟨g, 0, none⟩) ∧ s14 = .pointer (some ⟨g2, 0, none⟩) ∧ s15 = .pointer (some ⟨gq, 0, none⟩) ∧ s16 = .pointer (some ⟨gr, 0, none⟩) ∧ CW wx g sx X ∧ CW wx g2 sy Y ∧ CW wx gq (sx != sy) (X / Y) ∧ CW wx gr sx (X % Y) ∧ Below w.heap.size w wx)
  case first =>
    go_region
    all_goals (go_wp2_with fail; go_meet)
    have hs : (!sx == sy) = (sx != sy) := by cases sx <;> cases sy <;> rfl
    rw [hs]
    exact ⟨rfl, rfl, rfl, rfl, ((HCX.out.other gq 0 _ n1).other gr 0 _ n2).drewN 1, ((HCY.out.other gq 0 _ n3).other gr 0 _ n4).drewN 1, ((HCQ.out.set0 _).other gr 0 _ hqr).drewN 1, ((HCR.out.other gq 0 _ n5).set0 _).drewN 1, below_drewN ((hB5.setCell (p := ⟨gq, 0, none⟩) (by have := hB4.size; show _ ≤ gq; omega) _).setCell (p := ⟨gr, 0, none⟩) (by have := hB4.size; show _ ≤ gr; omega) _) 1⟩
  case rest =>
    obtain ⟨rfl, rfl, rfl, rfl, hx, hy, hq, hr, hB⟩ := hcut
    clear cx cy cq cr fq fr HCX HCY HCQ HCR HB hsn HRM HRN hb1 hb3 hb4 hb5 hB3 HC HC1 HC2
    have hwg : w.heap.size ≤ gq := by have := hB4.size; omega
    have hwr : w.heap.size ≤ gr := by have := hB4.size; omega
    clear hB4 hB5
    have r1 := hr.2.c1
    have x0 := hx.2.c0
    have y0 := hy.2.c0
    have hB0 := hB
    by_cases hcase : X % Y = 0 ∨ sx = sy
    · have HP := Lib.hid (prt_sg HY0.out hcase)
      have hpick : X % Y = 0 ∨ (X % Y ≠ 0 ∧ sx = sy) := by
        rcases hcase with h | h
        · exact .inl h
        · by_cases h0 : X % Y = 0
          · exact .inl h0
          · exact .inr ⟨h0, h⟩
      have HQ := Lib.hid hq; have HR := Lib.hid hr
      have hql := hq.lt; have hrl := hr.lt
      clear hcase hq hr hx hy hB
      rcases hpick with h | ⟨h, rfl⟩
      · rw [h, wlen_zero] at r1
        clear h
        go_wp2_with fail
        go_quiet (fail)
        go_wp2_with fail
        refine (text_c gq _ _ _ (HQ.out.drewN nq) (HG.out.later (below_drewN hB0 nq))).mono ?_; rintro e w1 ⟨rfl, hb1⟩
        have hB1 := (below_drewN hB0 nq).trans (hb1.mono hB0.size)
        go_wp2_with fail
        refine (text_c gr _ _ _ ((HR.out.drewN nq).later hb1 hrl) (HG.out.later hB1)).mono ?_; rintro e w2 ⟨rfl, hb2⟩
        have hB2 := hB1.trans (hb2.mono hB1.size)
        go_wp2
        go_ret3
        rw [HP.out]
        exact ⟨rfl, hB2⟩
      · have hpos : 0 < wlen (X % Y) := by have := mt wlen_eq_zero.1 h; omega
        clear h
        go_wp2_with fail
        go_quiet (fail)
        go_wp2_with fail
        refine (text_c gq _ _ _ (HQ.out.drewN nq) (HG.out.later (below_drewN hB0 nq))).mono ?_; rintro e w1 ⟨rfl, hb1⟩
        have hB1 := (below_drewN hB0 nq).trans (hb1.mono hB0.size)
        go_wp2_with fail
        refine (text_c gr _ _ _ ((HR.out.drewN nq).later hb1 hrl) (HG.out.later hB1)).mono ?_; rintro e w2 ⟨rfl, hb2⟩
        have hB2 := hB1.trans (hb2.mono hB1.size)
        go_wp2
        go_ret3
        rw [HP.out, show (sx != sx) = false by cases sx <;> rfl]
        exact ⟨rfl, hB2⟩
    · have h1 : X % Y ≠ 0 := fun e => hcase (.inl e)
      have h2 : sx ≠ sy := fun e => hcase (.inr e)
      have HP := Lib.hid (prt_sg2 HY0.out h1 h2)
      have hpos : 0 < wlen (X % Y) := by have := mt wlen_eq_zero.1 h1; omega
      have hxy : (!sx == sy) = true := by revert h2; cases sx <;> cases sy <;> simp
      have HQ := Lib.hid hq; have HR := Lib.hid hr; have HY := Lib.hid hy
      have hql := hq.lt; have hrl := hr.lt; have hyl := hy.lt
      have hne : gq ≠ wc.heap.size := by omega
      have hne' : wc.heap.size ≠ gq := by omega
      have hfq : ∀ k, (wc.drewN k).frozen? ⟨gq, 0, none⟩ = false := fun k => (hq.drewN k).2.free 0
      have hcq : ∀ k, (wc.drewN k).cell? ⟨gq, 0, none⟩ = some (.bool (sx != sy)) := fun k => (hq.drewN k).2.c0
      have H2 := Lib.hid h2
      clear hcase hq hr hx hy hB h1 h2
      go_wp2_with fail
      go_quiet (fail)
      have hfq' := hfq nq
      have hcq' := hcq nq
      have hw1 := one_wb (wc.drewN nq)
      have hf1 := hw1.free 2
      obtain ⟨v2, hc1⟩ : ∃ v, World.cell? _ ⟨wc.heap.size, 2, none⟩ = some v := ⟨_, hw1.cw (i := 0) (by rw [hw1.len]; omega)⟩
      rw [show (wc.drewN nq).heap.size = wc.heap.size from rfl] at hf1
      have hq1 := (HQ.out.drewN nq).later ((Below.refl _ _).alloc (Nat.le_refl _) (.cells ((Tryz.zeroCells160.setIfInBounds 0 (.bool true)).setIfInBounds 1 (.int .i64 1)) 160)) hql
      have hcq1 := hq1.2.c0
      have hfq1 := hq1.2.free 0
      have HW1 := Lib.hid hw1; have HQ1 := Lib.hid hq1
      clear hfq hcq hw1 hq1
      go_wp2_with fail
      have hone : CW _ wc.heap.size true 1 := ⟨one_max, by rw [wlen_one, ← wds_one]; exact HW1.out.setw 0 1 rfl⟩
      have hone2 := hone.other gq 0 (.bool true) hne'
      have hq2 := (HQ1.out.other wc.heap.size 2 (.int .i64 1) hne).set0 true
      have hb2 : Below w.heap.size w _ := ((((below_drewN hB0 nq).alloc hB0.size (.cells ((Tryz.zeroCells160.setIfInBounds 0 (.bool true)).setIfInBounds 1 (.int .i64 1)) 160)).setCell (p := ⟨wc.heap.size, 2, none⟩) hB0.size (.int .i64 1)).setCell (p := ⟨gq, 0, none⟩) hwg (.bool true))
      have s1 : X / Y + 1 < wmax := (sum_room (i := 1) (by omega) (by rw [Nat.one_mul]; exact Nat.le_trans (Nat.div_le_self _ _) (Nat.le_of_lt HMW.out)) (Nat.lt_of_le_of_lt (Nat.pos_of_ne_zero HY0.out) HNW.out)).1
      have hRY : X % Y < Y := Nat.mod_lt _ (Nat.pos_of_ne_zero HY0.out)
      have s2 : X % Y + Y < wmax := (sum_room (i := 1) (by omega) (by rw [Nat.one_mul]; exact Nat.le_of_lt (Nat.lt_trans hRY HNW.out)) HNW.out).1
      have HS2 := Lib.hid s2; have HRY := Lib.hid hRY; have HHB := Lib.hid hb2
      refine (plus_c gq wc.heap.size true true (X / Y) 1 _ hq2 hone2 hne s1).mono ?_
      rintro e w6 ⟨rfl, hCQ, hG6⟩
      rw [addS_one] at hCQ
      have hr6 := ((((HR.out.drewN nq).later ((Below.refl _ _).alloc (Nat.le_refl _) (.cells ((Tryz.zeroCells160.setIfInBounds 0 (.bool true)).setIfInBounds 1 (.int .i64 1)) 160)) hrl).other wc.heap.size 2 (.int .i64 1) (by omega)).other gq 0 (.bool true) n5).kept hG6 (by simpa using n5)
      have hy6 := ((((HY.out.drewN nq).later ((Below.refl _ _).alloc (Nat.le_refl _) (.cells ((Tryz.zeroCells160.setIfInBounds 0 (.bool true)).setIfInBounds 1 (.int .i64 1)) 160)) hyl).other wc.heap.size 2 (.int .i64 1) (by omega)).other gq 0 (.bool true) n3).kept hG6 (by simpa using n3)
      have hB6 := HHB.out.trans (gb_below hG6 hwg HHB.out.size)
      have HCQ := Lib.hid hCQ; have HR6 := Lib.hid hr6; have HY6 := Lib.hid hy6
      clear hf1 hc1 hfq' hcq' hcq1 hfq1 hone hone2 hq2 hb2 s1 s2 hRY hCQ hr6 hy6 x0 y0 r1 hxy hG6
      go_wp2_with fail
      refine (plus_c gr g2 sx sy (X % Y) Y _ HR6.out HY6.out n9 HS2.out).mono ?_
      rintro e w7 ⟨rfl, hCR, hG7⟩
      rw [addS_less H2.out HRY.out] at hCR
      have hCQ := HCQ.out.kept hG7 (by simpa using hqr)
      have hB7 := hB6.trans (gb_below hG7 hwr hB6.size)
      have HCR := Lib.hid hCR
      have HCQ7 := Lib.hid hCQ
      have hrl7 := hCR.lt
      clear hCR hCQ hG7
      go_wp2_with fail
      refine (text_c gq _ _ _ HCQ7.out (HG.out.later hB7)).mono ?_; rintro e w8 ⟨rfl, hb8⟩
      have hB8 := hB7.trans (hb8.mono hB7.size)
      go_wp2_with fail
      refine (text_c gr _ _ _ (HCR.out.later hb8 hrl7) (HG.out.later hB8)).mono ?_; rintro e w9 ⟨rfl, hb9⟩
      have hB9 := hB8.trans (hb9.mono hB8.size)
      go_wp2
      go_ret3
      rw [HP.out]
      exact ⟨rfl, hB9⟩
end Go.Proofs.Wk
