/- THE PROGRAM's RATIONAL NUMBERS: quotients of texts, the order, parts, signs, opposites, floors, quotients of integers. -/
import Derived.Test.YtcdjhgkeehhaaaaGreatDoorHH
import Derived.Test.YtcdjhgkeehhaaaaGreatDoorHE
import Derived.Test.YtcdjhgkeehhaaaaGreatDoorHA
import Derived.LoopN
namespace Go.Proofs.Wk
open Go.RowKit Mt

set_option maxRecDepth 100000 in
theorem qParts_c (a : Txt) (w : World) (hg : Good w) (ha : a.length ≤ 140737488355328) : Calls Tryz.prog 143 #[.string ⟨a.toArray⟩] w (Ret w (ans3p (run1 ([], []) partQ a))) := by
  have HG := Lib.hid hg
  have HC := Lib.hid (fun W hW => qCheck_c a W hW ha)
  have hB0 := Below.refl w.heap.size w
  clear ha hg
  rcases run1_cases a with ⟨hne, hall⟩ | ⟨p, rfl, hp, h0, hall⟩
  · rw [hall]
    have h3 := bne_ne hne
    generalize rchk a = x at *
    clear hne hall
    go_enter Tryz.func143, Tryz.ntmps143
    go_wp2_with fail
    ((with_reducible refine (HC.out _ (HG.out.later hB0)).mono ?_); rintro e w1 ⟨rfl, hb1⟩)
    have hB1 := hB0.trans (hb1.mono hB0.size); clear hb1
    go_wp2
    go_ret3
    exact ⟨rfl, hB1⟩
  · rw [hall]
    rw [h0] at HC
    have HI := Lib.hid (fun W => cut_q p W hp)
    unfold partQ
    clear hp h0 hall
    generalize rhas (rtoa p) = o at *
    generalize rtoa p = tp at *
    generalize Lib.itoa p.num = y0 at *
    generalize Lib.itoa (p.den : Int) = y1 at *
    go_enter Tryz.func143, Tryz.ntmps143
    go_wp2_with fail
    ((with_reducible refine (HC.out _ (HG.out.later hB0)).mono ?_); rintro e w1 ⟨rfl, hb1⟩)
    have hB1 := hB0.trans (hb1.mono hB0.size); clear hb1
    go_wp2_with fail
    ((with_reducible refine (HI.out _).mono ?_); rintro e w2 ⟨rfl, hb2⟩)
    have hB2 := hB1.trans (hb2.mono hB1.size); clear hb2
    go_wp2
    go_ret3
    exact ⟨rfl, hB2⟩
set_option maxRecDepth 100000 in
theorem qSign_c (a : Txt) (w : World) (hg : Good w) (ha : a.length ≤ 140737488355328) : Calls Tryz.prog 145 #[.string ⟨a.toArray⟩] w (Ret w (int2 (run1 0 signQ a))) := by
  have HG := Lib.hid hg
  have hc := fun W hW => qParts_c a W hW ha
  have hB0 := Below.refl w.heap.size w
  clear ha hg
  rcases run1_cases a with ⟨hne, hall⟩ | ⟨p, rfl, hp, h0, hall⟩
  · rw [hall]
    simp only [hall] at hc
    have HC := Lib.hid hc
    have h3 := bne_ne hne
    clear hc
    generalize rchk a = x at *
    clear hne hall
    go_enter Tryz.func145, Tryz.ntmps145
    go_wp2_with fail
    ((with_reducible refine (HC.out _ (HG.out.later hB0)).mono ?_); rintro e w1 ⟨rfl, hb1⟩)
    have hB1 := hB0.trans (hb1.mono hB0.size); clear hb1
    go_wp2
    go_ret2
    exact ⟨rfl, hB1⟩
  · rw [hall]
    simp only [hall, partQ] at hc
    have HC := Lib.hid hc
    have HI := Lib.hid (fun W => show Calls _ _ _ W (Ret W (int2 (sgnQ p, 0))) from signI p.num W hp.sz.1)
    unfold signQ
    clear hp h0 hall hc
    generalize sgnQ p = y0 at *
    generalize rtoa p = tp at *
    generalize Lib.itoa p.num = u0 at *
    generalize Lib.itoa (p.den : Int) = u1 at *
    go_enter Tryz.func145, Tryz.ntmps145
    go_wp2_with fail
    ((with_reducible refine (HC.out _ (HG.out.later hB0)).mono ?_); rintro e w1 ⟨rfl, hb1⟩)
    have hB1 := hB0.trans (hb1.mono hB0.size); clear hb1
    go_wp2_with fail
    ((with_reducible refine (HI.out _).mono ?_); rintro e w2 ⟨rfl, hb2⟩)
    have hB2 := hB1.trans (hb2.mono hB1.size); clear hb2
    go_wp2
    go_ret2
    exact ⟨rfl, hB2⟩
theorem neg_join (p : Rat) : joinT (-p.num) (p.den : Int) = rtoa (-p) := by
  have := join_rtoa (-p)
  rwa [Rat.neg_num, Rat.neg_den] at this
set_option maxRecDepth 100000 in
theorem qNeg_c (a : Txt) (w : World) (hg : Good w) (ha : a.length ≤ 140737488355328) : Calls Tryz.prog 105 #[.string ⟨a.toArray⟩] w (Ret w (ans2 (run1 [] negQ a))) := by
  have HG := Lib.hid hg
  have hc := fun W hW => qParts_c a W hW ha
  have hB0 := Below.refl w.heap.size w
  clear ha hg
  rcases run1_cases a with ⟨hne, hall⟩ | ⟨p, rfl, hp, h0, hall⟩
  · rw [hall]
    simp only [hall] at hc
    have HC := Lib.hid hc
    have h3 := bne_ne hne
    clear hc
    generalize rchk a = x at *
    clear hne hall
    go_enter Tryz.func105, Tryz.ntmps105
    go_wp2_with fail
    ((with_reducible refine (HC.out _ (HG.out.later hB0)).mono ?_); rintro e w1 ⟨rfl, hb1⟩)
    have hB1 := hB0.trans (hb1.mono hB0.size); clear hb1
    go_wp2
    go_ret2
    exact ⟨rfl, hB1⟩
  · rw [hall]
    simp only [hall, partQ] at hc
    have HC := Lib.hid hc
    have HN := Lib.hid (fun W => negI p.num W hp.sz.1)
    have HJ := Lib.hid (fun W => joined_c (-p.num) p.den W (by rw [lng_neg]; have := hp.sz.1; omega) (by have := hp.sz.2; omega))
    rw [neg_join] at HJ
    unfold negQ
    clear hp h0 hall hc
    generalize rtoa (-p) = tr at *
    generalize rtoa p = tp at *
    generalize Lib.itoa (-p.num) = u2 at *
    generalize Lib.itoa p.num = u0 at *
    generalize Lib.itoa (p.den : Int) = u1 at *
    go_enter Tryz.func105, Tryz.ntmps105
    go_wp2_with fail
    ((with_reducible refine (HC.out _ (HG.out.later hB0)).mono ?_); rintro e w1 ⟨rfl, hb1⟩)
    have hB1 := hB0.trans (hb1.mono hB0.size); clear hb1
    go_wp2_with fail
    ((with_reducible refine (HN.out _).mono ?_); rintro e w2 ⟨rfl, hb2⟩)
    have hB2 := hB1.trans (hb2.mono hB1.size); clear hb2
    go_wp2_with fail
    ((with_reducible refine (HJ.out _).mono ?_); rintro e w' ⟨rfl, rfl⟩)
    go_wp2
    go_ret2
    exact ⟨rfl, hB2⟩
set_option maxRecDepth 100000 in
theorem qDiv_c (a b : Txt) (w : World) (hg : Good w) (ha : a.length ≤ 140737488355328) (hb : b.length ≤ 140737488355328) : Calls Tryz.prog 146 #[.string ⟨a.toArray⟩, .string ⟨b.toArray⟩] w (Ret w (ans2 (rbin [] divQ a b))) := by
  have HG := Lib.hid hg
  have hk := fun W hW hS => checks_c (v := .slice (some ⟨w.heap.size, 0, none⟩) 2 2) [a, b] W hW hS (by simp) (list2_le ha hb)
  clear ha hb hg
  rcases rbin_cases a b with ⟨hne, hall⟩ | ⟨p, q, rfl, rfl, hp, hq, h0, hall⟩
  · rw [hall]
    have HK := Lib.hid hk
    have h3 := bne_ne hne
    clear hk hall hne
    generalize firstR [a, b] = x at *
    go_enter Tryz.func146, Tryz.ntmps146
    go_wp2_with fail
    ((with_reducible refine (HK.out _ (HG.out.later ((Below.refl _ _).alloc (Nat.le_refl _) _)) (SlS.two w _ _ _)).mono ?_); rintro e w1 ⟨rfl, hb1⟩)
    have hB1 : Below w.heap.size w w1 := ((Below.refl w.heap.size w).alloc (Nat.le_refl _) _).trans (hb1.mono (Nat.le_of_lt (alloc_lt w _)))
    go_wp2
    go_ret2
    exact ⟨rfl, hB1⟩
  · rw [hall]
    rw [h0] at hk
    have HK := Lib.hid hk
    have hz := rtoa_is_zero (q := q)
    clear hk hall
    by_cases h1 : q = 0
    · rw [show divQ p q = ([], 10) by unfold divQ; rw [if_pos h1]]
      rw [decide_eq_true h1] at hz
      clear h0 hp hq h1
      generalize rtoa p = tp at *
      generalize rtoa q = tq at *
      go_enter Tryz.func146, Tryz.ntmps146
      go_wp2_with fail
      ((with_reducible refine (HK.out _ (HG.out.later ((Below.refl _ _).alloc (Nat.le_refl _) _)) (SlS.two w _ _ _)).mono ?_); rintro e w1 ⟨rfl, hb1⟩)
      have hB1 : Below w.heap.size w w1 := ((Below.refl w.heap.size w).alloc (Nat.le_refl _) _).trans (hb1.mono (Nat.le_of_lt (alloc_lt w _)))
      go_wp2
      go_ret2
      exact ⟨rfl, hB1⟩
    · rw [decide_eq_false h1] at hz
      have HM := Lib.hid (fun W hW => madeDiv_ok p q W hW hp hq h0 h1)
      clear h0 hp hq h1
      generalize divQ p q = r at *
      generalize rtoa p = tp at *
      generalize rtoa q = tq at *
      go_enter Tryz.func146, Tryz.ntmps146
      go_wp2_with fail
      ((with_reducible refine (HK.out _ (HG.out.later ((Below.refl _ _).alloc (Nat.le_refl _) _)) (SlS.two w _ _ _)).mono ?_); rintro e w1 ⟨rfl, hb1⟩)
      have hB1 : Below w.heap.size w w1 := ((Below.refl w.heap.size w).alloc (Nat.le_refl _) _).trans (hb1.mono (Nat.le_of_lt (alloc_lt w _)))
      go_wp2_with fail
      ((with_reducible refine (HM.out _ (HG.out.later hB1)).mono ?_); rintro e w2 ⟨rfl, hb2⟩)
      have hB2 := hB1.trans (hb2.mono hB1.size); clear hb2
      go_wp2
      go_ret2
      exact ⟨rfl, hB2⟩
theorem size_new (w : World) : (w.alloc (.cells #[.int .i64 0] 56)).heap.size = w.heap.size + 1 := by simp
set_option maxRecDepth 100000 in
set_option maxHeartbeats 1000000 in
theorem qCompare_c (a b : Txt) (w : World) (hg : Good w) (ha : a.length ≤ 140737488355328) (hb : b.length ≤ 140737488355328) : Calls Tryz.prog 8 #[.string ⟨a.toArray⟩, .string ⟨b.toArray⟩] w (Ret w (int2 (rbin 0 cmpE a b))) := by
  have HG := Lib.hid hg
  have hk := fun W hW hS => checks_c (v := .slice (some ⟨w.heap.size, 0, none⟩) 2 2) [a, b] W hW hS (by simp) (list2_le ha hb)
  clear ha hb hg
  rcases rbin_cases a b with ⟨hne, hall⟩ | ⟨p, q, rfl, rfl, hp, hq, h0, hall⟩
  · rw [hall]
    have HK := Lib.hid hk
    have h3 := bne_ne hne
    clear hk hall hne
    generalize firstR [a, b] = x at *
    go_enter Tryz.func8, Tryz.ntmps8
    go_wp2_with fail
    ((with_reducible refine (HK.out _ (HG.out.later ((Below.refl _ _).alloc (Nat.le_refl _) _)) (SlS.two w _ _ _)).mono ?_); rintro e w1 ⟨rfl, hb1⟩)
    have hB1 : Below w.heap.size w w1 := ((Below.refl w.heap.size w).alloc (Nat.le_refl _) _).trans (hb1.mono (Nat.le_of_lt (alloc_lt w _)))
    go_wp2
    go_ret2
    exact ⟨rfl, hB1⟩
  · rw [hall]
    rw [h0] at hk
    have HK := Lib.hid hk
    have HCP := Lib.hid (fun W => cut_q p W hp)
    have HCQ := Lib.hid (fun W => cut_q q W hq)
    have hm1 := fun W g (S : Sv W g true W) N (hN : W.heap.size = N) => hN ▸ mulL [p.num, (q.den : Int)] #[.string ⟨(Lib.itoa p.num).toArray⟩, .string ⟨(Lib.itoa (q.den : Int)).toArray⟩] 2 g true W W 51 S rfl rfl (by omega) (by intro x hx; simp at hx; rcases hx with rfl | rfl; exact hp.nb; exact hq.db)
    have hm2 := fun s w0 W g (S : Sv w0 g s W) => mulL [q.num, (p.den : Int)] #[.string ⟨(Lib.itoa q.num).toArray⟩, .string ⟨(Lib.itoa (p.den : Int)).toArray⟩] 2 g s w0 W 51 S rfl rfl (by omega) (by intro x hx; simp at hx; rcases hx with rfl | rfl; exact hq.nb; exact hp.db)
    simp only [mulS2 hp.nb] at hm1
    simp only [mulS2 hq.nb] at hm2
    have HM1 := Lib.hid hm1
    have HM2 := Lib.hid (hm2 (dk (p.num * q.den) true).2)
    have e : cmpE p q = if (dk (q.num * p.den) (dk (p.num * q.den) true).2).2 = true then (cmp (dk (p.num * q.den) true).1 (dk (q.num * p.den) (dk (p.num * q.den) true).2).1, 0) else (0, 11) := by
      unfold cmpE
      simp only [allB, List.all_cons, List.all_nil, Bool.and_true, Bool.and_eq_true, decide_eq_true_eq]
      cases h : (dk (q.num * p.den) (dk (p.num * q.den) true).2).2 with
      | true =>
        obtain ⟨h1, b2, e2⟩ := dk_good _ _ h
        obtain ⟨-, b1, e1⟩ := dk_good _ _ h1
        rw [if_pos ⟨b1, b2⟩, if_pos rfl, e2, e1]; rfl
      | false =>
        rw [if_neg (by simp : ¬ false = true), if_neg]
        rintro ⟨b1, b2⟩
        rw [dk_ok b1] at h
        rw [dk_ok b2] at h; cases h
    rw [e]
    have hx := dk_lng (p.num * q.den) true
    have hy := dk_lng (q.num * p.den) (dk (p.num * q.den) true).2
    generalize dk (q.num * p.den) (dk (p.num * q.den) true).2 = p2 at *
    generalize dk (p.num * q.den) true = p1 at *
    obtain ⟨x2, s2⟩ := p2
    obtain ⟨x1, s1⟩ := p1
    simp only at hx hy HM1 HM2 ⊢
    have HO := Lib.hid (fun W => cmpI x1 x2 W (lng_big hx) (lng_big hy))
    clear hm1 hm2 e hx hy hk hall hp hq h0
    generalize cmp x1 x2 = cc at *
    generalize rhas (rtoa p) = o1 at *
    generalize rhas (rtoa q) = o2 at *
    generalize rtoa p = ta at *
    generalize rtoa q = tb at *
    generalize Lib.itoa p.num = t1 at *
    generalize Lib.itoa (p.den : Int) = t2 at *
    generalize Lib.itoa q.num = t3 at *
    generalize Lib.itoa (q.den : Int) = t4 at *
    generalize Lib.itoa x1 = t5 at *
    generalize Lib.itoa x2 = t6 at *
    cases s2
    · rw [if_neg (by simp)]
      go_enter Tryz.func8, Tryz.ntmps8
      go_wp2_with fail
      ((with_reducible refine (HK.out _ (HG.out.later ((Below.refl _ _).alloc (Nat.le_refl _) _)) (SlS.two w _ _ _)).mono ?_); rintro e w1 ⟨rfl, hb1⟩)
      have hB1 : Below w.heap.size w w1 := ((Below.refl w.heap.size w).alloc (Nat.le_refl _) _).trans (hb1.mono (Nat.le_of_lt (alloc_lt w _)))
      go_wp2_with fail
      ((with_reducible refine (HCP.out _).mono ?_); rintro e w2 ⟨rfl, hb2⟩)
      have hB2 := hB1.trans (hb2.mono hB1.size); clear hb2
      go_wp2_with fail
      ((with_reducible refine (HCQ.out _).mono ?_); rintro e w3 ⟨rfl, hb3⟩)
      have hB3 := hB2.trans (hb3.mono hB2.size); clear hb3
      have S4 := Sv.new w3 (HG.out.later hB3)
      go_wp2_with fail
      ((with_reducible refine (HM1.out _ _ S4 _ (size_new w3)).mono ?_); rintro e w5 ⟨rfl, S5⟩)
      go_wp2_with fail
      ((with_reducible refine (HM2.out _ _ _ S5).mono ?_); rintro e w6 ⟨rfl, S6⟩)
      have c0 := S6.st.c0
      rw [show ecode false = 11 from rfl] at c0
      have HB := Lib.hid (S6.below hB3 hB3.size)
      clear S4 S5 S6
      go_wp2_with fail
      go_region
      all_goals
        go_wp2
        go_ret2
        exact ⟨rfl, HB.out.drew⟩
    · rw [if_pos rfl]
      go_enter Tryz.func8, Tryz.ntmps8
      go_wp2_with fail
      ((with_reducible refine (HK.out _ (HG.out.later ((Below.refl _ _).alloc (Nat.le_refl _) _)) (SlS.two w _ _ _)).mono ?_); rintro e w1 ⟨rfl, hb1⟩)
      have hB1 : Below w.heap.size w w1 := ((Below.refl w.heap.size w).alloc (Nat.le_refl _) _).trans (hb1.mono (Nat.le_of_lt (alloc_lt w _)))
      go_wp2_with fail
      ((with_reducible refine (HCP.out _).mono ?_); rintro e w2 ⟨rfl, hb2⟩)
      have hB2 := hB1.trans (hb2.mono hB1.size); clear hb2
      go_wp2_with fail
      ((with_reducible refine (HCQ.out _).mono ?_); rintro e w3 ⟨rfl, hb3⟩)
      have hB3 := hB2.trans (hb3.mono hB2.size); clear hb3
      have S4 := Sv.new w3 (HG.out.later hB3)
      go_wp2_with fail
      ((with_reducible refine (HM1.out _ _ S4 _ (size_new w3)).mono ?_); rintro e w5 ⟨rfl, S5⟩)
      go_wp2_with fail
      ((with_reducible refine (HM2.out _ _ _ S5).mono ?_); rintro e w6 ⟨rfl, S6⟩)
      have c0 := S6.st.c0
      rw [show ecode true = 0 from rfl] at c0
      have hB6 := S6.below hB3 hB3.size
      clear S4 S5 S6
      go_wp2_with fail
      ((with_reducible refine (HO.out _).mono ?_); rintro e w7 ⟨rfl, hb7⟩)
      have hB7 := hB6.trans (hb7.mono hB6.size); clear hb7
      go_wp2
      go_ret2
      exact ⟨rfl, hB7⟩
set_option maxRecDepth 100000 in
theorem qWhole_c (m : Int) (w : World) (hg : Good w) (m0 : -9223372036854775808 ≤ m) (m1 : m ≤ 9223372036854775807) : Calls Tryz.prog 81 #[.int .i64 m] w (Ret w (.string ⟨(Lib.itoa m).toArray⟩)) := by
  have HM := Lib.hid (fun W hW => wOf_c m W hW m0 m1)
  have HG := Lib.hid hg
  have hB0 := Below.refl w.heap.size w
  clear m0 m1 hg
  generalize Lib.itoa m = ta at *
  go_enter Tryz.func81, Tryz.ntmps81
  go_wp2_with fail
  ((with_reducible refine (HM.out _ (HG.out.later hB0)).mono ?_); rintro e w1 ⟨rfl, hb1⟩)
  have hB1 := hB0.trans (hb1.mono hB0.size); clear hb1
  go_wp2
  go_ret
  exact ⟨rfl, hB1⟩
end Go.Proofs.Wk
/- THE PROGRAM's RATIONAL NUMBERS: quotients of integers, sums of lists. -/
namespace Go.Proofs.Wk
open Go.RowKit Mt

set_option maxRecDepth 100000 in
set_option maxHeartbeats 1000000 in
theorem qMake_c (a b : Txt) (w : World) (hg : Good w) (ha : a.length ≤ 140737488355328) (hb : b.length ≤ 140737488355328) : Calls Tryz.prog 57 #[.string ⟨a.toArray⟩, .string ⟨b.toArray⟩] w (Ret w (ans2 (mk2 a b))) := by
  have HG := Lib.hid hg
  have HA := Lib.hid (fun W => wCheck_c a W ha)
  have HB := Lib.hid (fun W => wCheck_c b W hb)
  clear ha hb hg
  by_cases h1 : chk a = 0
  · by_cases h2 : chk b = 0
    · obtain ⟨ea, ba⟩ := ok_text h1
      obtain ⟨eb, bb⟩ := ok_text h2
      rw [h1] at HA; rw [h2] at HB
      rw [show mk2 a b = makQ (val a) (val b) by unfold mk2; rw [if_pos (both_zero.2 ⟨h1, h2⟩)]]
      have hz := itoa_is_zero (n := val b)
      rw [eb] at hz
      by_cases h0 : val b = 0
      · rw [show makQ (val a) (val b) = ([], 10) by unfold makQ; rw [if_pos h0]]
        rw [decide_eq_true h0] at hz
        clear h0 ea ba eb bb h1 h2
        go_enter Tryz.func57, Tryz.ntmps57
        go_wp2_with fail
        refine wp_loop_rounds 3 ?_
        rw [rounds_succ]
        go_wp2_with fail
        ((with_reducible refine (HA.out _).mono ?_); rintro e w1 ⟨rfl, hb1⟩)
        have hB1 : Below w.heap.size w w1 := ((Below.refl w.heap.size w).alloc (Nat.le_refl _) _).trans (hb1.mono (Nat.le_of_lt (alloc_lt w _)))
        have c1 : w1.cell? ⟨w.heap.size, 1, none⟩ = some (.string ⟨b.toArray⟩) := ((RS.lit w [a, b] 51).later hb1 (alloc_lt w _)) 1 (by simp)
        clear hb1
        go_wp2_with fail
        rw [rounds_succ]
        go_wp2_with fail
        ((with_reducible refine (HB.out _).mono ?_); rintro e w2 ⟨rfl, hb2⟩)
        have hB2 := hB1.trans (hb2.mono hB1.size)
        clear c1 hb2
        go_wp2_with fail
        rw [rounds_succ]
        go_wp2
        go_ret2
        exact ⟨rfl, hB2⟩
      · rw [show makQ (val a) (val b) = (rtoa (Rat.divInt (val a) (val b)), 0) by unfold makQ; rw [if_neg h0]]
        rw [decide_eq_false h0] at hz
        have hl := fun g w0 W S => lowL (val a) (val b) g w0 W S ba bb h0
        rw [ea, eb] at hl
        have HL := Lib.hid hl
        clear hl h0 ea ba eb bb h1 h2
        generalize rtoa (Rat.divInt (val a) (val b)) = tr at *
        go_enter Tryz.func57, Tryz.ntmps57
        go_wp2_with fail
        refine wp_loop_rounds 3 ?_
        rw [rounds_succ]
        go_wp2_with fail
        ((with_reducible refine (HA.out _).mono ?_); rintro e w1 ⟨rfl, hb1⟩)
        have hB1 : Below w.heap.size w w1 := ((Below.refl w.heap.size w).alloc (Nat.le_refl _) _).trans (hb1.mono (Nat.le_of_lt (alloc_lt w _)))
        have c1 : w1.cell? ⟨w.heap.size, 1, none⟩ = some (.string ⟨b.toArray⟩) := ((RS.lit w [a, b] 51).later hb1 (alloc_lt w _)) 1 (by simp)
        clear hb1
        go_wp2_with fail
        rw [rounds_succ]
        go_wp2_with fail
        ((with_reducible refine (HB.out _).mono ?_); rintro e w2 ⟨rfl, hb2⟩)
        have hB2 := hB1.trans (hb2.mono hB1.size)
        clear c1 hb2
        go_wp2_with fail
        rw [rounds_succ]
        go_wp2_with fail
        have S3 := Sv.new w2 (HG.out.later hB2)
        ((with_reducible refine (HL.out _ _ _ S3).mono ?_); rintro e w4 ⟨rfl, S4⟩)
        have c0 := S4.st.c0
        rw [show ecode true = 0 from rfl] at c0
        have HBB := Lib.hid (S4.below hB2 hB2.size)
        clear S3 S4
        go_wp2
        go_ret2
        exact ⟨rfl, HBB.out⟩
    · rw [show mk2 a b = ([], chk b) by unfold mk2; rw [if_neg (fun e => h2 (both_zero.1 e).2)]; unfold both; rw [if_pos h1]]
      rw [h1] at HA
      have h3 := bne_ne h2
      generalize chk b = x at *
      clear h1 h2
      go_enter Tryz.func57, Tryz.ntmps57
      go_wp2_with fail
      refine wp_loop_rounds 3 ?_
      rw [rounds_succ]
      go_wp2_with fail
      ((with_reducible refine (HA.out _).mono ?_); rintro e w1 ⟨rfl, hb1⟩)
      have hB1 : Below w.heap.size w w1 := ((Below.refl w.heap.size w).alloc (Nat.le_refl _) _).trans (hb1.mono (Nat.le_of_lt (alloc_lt w _)))
      have c1 : w1.cell? ⟨w.heap.size, 1, none⟩ = some (.string ⟨b.toArray⟩) := ((RS.lit w [a, b] 51).later hb1 (alloc_lt w _)) 1 (by simp)
      clear hb1
      go_wp2_with fail
      rw [rounds_succ]
      go_wp2_with fail
      ((with_reducible refine (HB.out _).mono ?_); rintro e w2 ⟨rfl, hb2⟩)
      have hB2 := hB1.trans (hb2.mono hB1.size)
      clear c1 hb2
      go_wp2
      go_ret2
      exact ⟨rfl, hB2⟩
  · rw [show mk2 a b = ([], chk a) by unfold mk2; rw [if_neg (fun e => h1 (both_zero.1 e).1)]; unfold both; rw [if_neg h1]]
    have h3 := bne_ne h1
    generalize chk a = x at *
    clear h1 HB
    go_enter Tryz.func57, Tryz.ntmps57
    go_wp2_with fail
    refine wp_loop_rounds 3 ?_
    rw [rounds_succ]
    go_wp2_with fail
    ((with_reducible refine (HA.out _).mono ?_); rintro e w1 ⟨rfl, hb1⟩)
    have hB1 : Below w.heap.size w w1 := ((Below.refl w.heap.size w).alloc (Nat.le_refl _) _).trans (hb1.mono (Nat.le_of_lt (alloc_lt w _)))
    go_wp2
    go_ret2
    exact ⟨rfl, hB1⟩
set_option maxRecDepth 100000 in
theorem qOf_c (m n : Int) (w : World) (hg : Good w) (m0 : -9223372036854775808 ≤ m) (m1 : m ≤ 9223372036854775807) (n0 : -9223372036854775808 ≤ n) (n1 : n ≤ 9223372036854775807) :
    Calls Tryz.prog 89 #[.int .i64 m, .int .i64 n] w (Ret w (ans2 (makQ m n))) := by
  have HG := Lib.hid hg
  have hB0 := Below.refl w.heap.size w
  have HM := Lib.hid (fun W hW => wOf_c m W hW m0 m1)
  have HN := Lib.hid (fun W hW => wOf_c n W hW n0 n1)
  have lm := lng_i64q m0 m1; have ln := lng_i64q n0 n1
  have hk := fun W hW => qMake_c (Lib.itoa m) (Lib.itoa n) W hW (txt_ok (by omega)) (txt_ok (by omega))
  rw [mk2_itoa (lng_big2 (by omega)) (lng_big2 (by omega))] at hk
  have HK := Lib.hid hk
  clear hk lm ln m0 m1 n0 n1 hg
  generalize makQ m n = r at *
  generalize Lib.itoa m = tm at *
  generalize Lib.itoa n = tn at *
  go_enter Tryz.func89, Tryz.ntmps89
  go_wp2_with fail
  ((with_reducible refine (HM.out _ (HG.out.later hB0)).mono ?_); rintro e w1 ⟨rfl, hb1⟩)
  have hB1 := hB0.trans (hb1.mono hB0.size); clear hb1
  go_wp2_with fail
  ((with_reducible refine (HN.out _ (HG.out.later hB1)).mono ?_); rintro e w2 ⟨rfl, hb2⟩)
  have hB2 := hB1.trans (hb2.mono hB1.size); clear hb2
  go_wp2_with fail
  ((with_reducible refine (HK.out _ (HG.out.later hB2)).mono ?_); rintro e w3 ⟨rfl, hb3⟩)
  have hB3 := hB2.trans (hb3.mono hB2.size); clear hb3
  go_wp2
  go_ret2
  exact ⟨rfl, hB3⟩
end Go.Proofs.Wk
