/- THE PROGRAM's RATIONAL NUMBERS: quotients of texts, the order, parts, signs, opposites, floors, quotients of integers. -/
import Derived.Test.YtdpjkfkmlaphhaaGreatDoorHH
import Derived.Test.YtdpjkfkmlaphhaaGreatDoorHE
import Derived.Test.YtdpjkfkmlaphhaaGreatDoorHA
import Derived.LoopN
namespace Go.Proofs.Wk
open Go.RowKit Mt

theorem size_new (w : World) : (w.alloc (.cells #[.int .i64 0] 217)).heap.size = w.heap.size + 1 := by simp
set_option maxRecDepth 100000 in
set_option maxHeartbeats 1000000 in
theorem qCompare_c (a b : Txt) (w : World) (hg : Good w) (ha : a.length ≤ 140737488355328) (hb : b.length ≤ 140737488355328) : Calls Tryz.prog 87 #[.string ⟨a.toArray⟩, .string ⟨b.toArray⟩] w (Ret w (int2 (rbin 0 cmpE a b))) := by
  have HG := Lib.hid hg
  have hk := fun W hW hS => checks_c (v := .slice (some ⟨w.heap.size, 0, none⟩) 2 2) [a, b] W hW hS (by simp) (list2_le ha hb)
  clear ha hb hg
  rcases rbin_cases a b with ⟨hne, hall⟩ | ⟨p, q, rfl, rfl, hp, hq, h0, hall⟩
  · rw [hall]
    have HK := Lib.hid hk
    have h3 := bne_ne hne
    clear hk hall hne
    generalize firstR [a, b] = x at *
    go_enter Tryz.func87, Tryz.ntmps87
    go_wp2_with fail
    ((with_reducible refine (HK.out _ (HG.out.later ((Below.refl _ _).alloc (Nat.le_refl _) _)) (SlS.two w _ _ _)).mono ?_); rintro e w1 ⟨rfl, hb1⟩)
    have hB1 : Below w.heap.size w w1 := ((Below.refl w.heap.size w).alloc (Nat.le_refl _) _).trans (hb1.mono (Nat.le_of_lt (alloc_lt w _)))
    go_wp2
    go_ret2
    exact ⟨rfl, hB1⟩
  · rw [hall]
    rw [h0] at hk
    have HK := Lib.hid hk
    have HCP := Lib.hid (fun W => cut_q p W hp)
    have HCQ := Lib.hid (fun W => cut_q q W hq)
    have hm1 := fun W g (S : Sv W g true W) N (hN : W.heap.size = N) => hN ▸ mulL [p.num, (q.den : Int)] #[.string ⟨(Lib.itoa p.num).toArray⟩, .string ⟨(Lib.itoa (q.den : Int)).toArray⟩] 2 g true W W 107 S rfl rfl (by omega) (by intro x hx; simp at hx; rcases hx with rfl | rfl; exact hp.nb; exact hq.db)
    have hm2 := fun s w0 W g (S : Sv w0 g s W) => mulL [q.num, (p.den : Int)] #[.string ⟨(Lib.itoa q.num).toArray⟩, .string ⟨(Lib.itoa (p.den : Int)).toArray⟩] 2 g s w0 W 107 S rfl rfl (by omega) (by intro x hx; simp at hx; rcases hx with rfl | rfl; exact hq.nb; exact hp.db)
    simp only [mulS2 hp.nb] at hm1
    simp only [mulS2 hq.nb] at hm2
    have HM1 := Lib.hid hm1
    have HM2 := Lib.hid (hm2 (dk (p.num * q.den) true).2)
    have e : cmpE p q = if (dk (q.num * p.den) (dk (p.num * q.den) true).2).2 = true then (cmp (dk (p.num * q.den) true).1 (dk (q.num * p.den) (dk (p.num * q.den) true).2).1, 0) else (0, 11) := by
      unfold cmpE
      simp only [allB, List.all_cons, List.all_nil, Bool.and_true, Bool.and_eq_true, decide_eq_true_eq]
      cases h : (dk (q.num * p.den) (dk (p.num * q.den) true).2).2 with
      | true =>
        obtain ⟨h1, b2, e2⟩ := dk_good _ _ h
        obtain ⟨-, b1, e1⟩ := dk_good _ _ h1
        rw [if_pos ⟨b1, b2⟩, if_pos rfl, e2, e1]; rfl
      | false =>
        rw [if_neg (by simp : ¬ false = true), if_neg]
        rintro ⟨b1, b2⟩
        rw [dk_ok b1] at h
        rw [dk_ok b2] at h; cases h
    rw [e]
    have hx := dk_lng (p.num * q.den) true
    have hy := dk_lng (q.num * p.den) (dk (p.num * q.den) true).2
    generalize dk (q.num * p.den) (dk (p.num * q.den) true).2 = p2 at *
    generalize dk (p.num * q.den) true = p1 at *
    obtain ⟨x2, s2⟩ := p2
    obtain ⟨x1, s1⟩ := p1
    simp only at hx hy HM1 HM2 ⊢
    have HO := Lib.hid (fun W => cmpI x1 x2 W (lng_big hx) (lng_big hy))
    clear hm1 hm2 e hx hy hk hall hp hq h0
    generalize cmp x1 x2 = cc at *
    generalize rhas (rtoa p) = o1 at *
    generalize rhas (rtoa q) = o2 at *
    generalize rtoa p = ta at *
    generalize rtoa q = tb at *
    generalize Lib.itoa p.num = t1 at *
    generalize Lib.itoa (p.den : Int) = t2 at *
    generalize Lib.itoa q.num = t3 at *
    generalize Lib.itoa (q.den : Int) = t4 at *
    generalize Lib.itoa x1 = t5 at *
    generalize Lib.itoa x2 = t6 at *
    cases s2
    · rw [if_neg (by simp)]
      go_enter Tryz.func87, Tryz.ntmps87
      go_wp2_with fail
      ((with_reducible refine (HK.out _ (HG.out.later ((Below.refl _ _).alloc (Nat.le_refl _) _)) (SlS.two w _ _ _)).mono ?_); rintro e w1 ⟨rfl, hb1⟩)
      have hB1 : Below w.heap.size w w1 := ((Below.refl w.heap.size w).alloc (Nat.le_refl _) _).trans (hb1.mono (Nat.le_of_lt (alloc_lt w _)))
      go_wp2_with fail
      ((with_reducible refine (HCP.out _).mono ?_); rintro e w2 ⟨rfl, hb2⟩)
      have hB2 := hB1.trans (hb2.mono hB1.size); clear hb2
      go_wp2_with fail
      ((with_reducible refine (HCQ.out _).mono ?_); rintro e w3 ⟨rfl, hb3⟩)
      have hB3 := hB2.trans (hb3.mono hB2.size); clear hb3
      have S4 := Sv.new w3 (HG.out.later hB3)
      go_wp2_with fail
      ((with_reducible refine (HM1.out _ _ S4 _ (size_new w3)).mono ?_); rintro e w5 ⟨rfl, S5⟩)
      go_wp2_with fail
      ((with_reducible refine (HM2.out _ _ _ S5).mono ?_); rintro e w6 ⟨rfl, S6⟩)
      have c0 := S6.st.c0
      rw [show ecode false = 11 from rfl] at c0
      have HB := Lib.hid (S6.below hB3 hB3.size)
      clear S4 S5 S6
      go_wp2_with fail
      go_region
      all_goals
        go_wp2
        go_ret2
        exact ⟨rfl, HB.out.drew⟩
    · rw [if_pos rfl]
      go_enter Tryz.func87, Tryz.ntmps87
      go_wp2_with fail
      ((with_reducible refine (HK.out _ (HG.out.later ((Below.refl _ _).alloc (Nat.le_refl _) _)) (SlS.two w _ _ _)).mono ?_); rintro e w1 ⟨rfl, hb1⟩)
      have hB1 : Below w.heap.size w w1 := ((Below.refl w.heap.size w).alloc (Nat.le_refl _) _).trans (hb1.mono (Nat.le_of_lt (alloc_lt w _)))
      go_wp2_with fail
      ((with_reducible refine (HCP.out _).mono ?_); rintro e w2 ⟨rfl, hb2⟩)
      have hB2 := hB1.trans (hb2.mono hB1.size); clear hb2
      go_wp2_with fail
      ((with_reducible refine (HCQ.out _).mono ?_); rintro e w3 ⟨rfl, hb3⟩)
      have hB3 := hB2.trans (hb3.mono hB2.size); clear hb3
      have S4 := Sv.new w3 (HG.out.later hB3)
      go_wp2_with fail
      ((with_reducible refine (HM1.out _ _ S4 _ (size_new w3)).mono ?_); rintro e w5 ⟨rfl, S5⟩)
      go_wp2_with fail
      ((with_reducible refine (HM2.out _ _ _ S5).mono ?_); rintro e w6 ⟨rfl, S6⟩)
      have c0 := S6.st.c0
      rw [show ecode true = 0 from rfl] at c0
      have hB6 := S6.below hB3 hB3.size
      clear S4 S5 S6
      go_wp2_with fail
      ((with_reducible refine (HO.out _).mono ?_); rintro e w7 ⟨rfl, hb7⟩)
      have hB7 := hB6.trans (hb7.mono hB6.size); clear hb7
      go_wp2
      go_ret2
      exact ⟨rfl, hB7⟩
set_option maxRecDepth 100000 in
theorem qWhole_c (m : Int) (w : World) (hg : Good w) (m0 : -9223372036854775808 ≤ m) (m1 : m ≤ 9223372036854775807) : Calls Tryz.prog 100 #[.int .i64 m] w (Ret w (.string ⟨(Lib.itoa m).toArray⟩)) := by
  have HM := Lib.hid (fun W hW => wOf_c m W hW m0 m1)
  have HG := Lib.hid hg
  have hB0 := Below.refl w.heap.size w
  clear m0 m1 hg
  generalize Lib.itoa m = ta at *
  go_enter Tryz.func100, Tryz.ntmps100
  go_wp2_with fail
  ((with_reducible refine (HM.out _ (HG.out.later hB0)).mono ?_); rintro e w1 ⟨rfl, hb1⟩)
  have hB1 := hB0.trans (hb1.mono hB0.size); clear hb1
  go_wp2
  go_ret
  exact ⟨rfl, hB1⟩
end Go.Proofs.Wk
/- THE PROGRAM's RATIONAL NUMBERS: quotients of integers, sums of lists. -/
namespace Go.Proofs.Wk
open Go.RowKit Mt

end Go.Proofs.Wk
