/- THE LAWS RatioMakes and RatioSums: they return true at all texts of integers and all lists. -/
import Derived.Test.YtachiilmgnognaaGreatDoorL2C
namespace Go.Proofs.Wk
open Go.RowKit Mt

theorem mk2_bd (a b : Txt) : 0 ≤ (mk2 a b).2 ∧ (mk2 a b).2 ≤ 11 := by
  unfold mk2; split
  · unfold makQ; split <;> simp
  · exact both_range a b
/-- An int, or its error. -/
theorem small_cases (a : Txt) : (∃ n : Int, a = Lib.itoa n ∧ inR n ∧ n.natAbs < big ∧ un2 small2 a = (n, 0)) ∨ ∃ x e, un2 small2 a = (x, e) ∧ e ≠ 0 := by
  unfold un2
  by_cases h : chk a = 0
  · rw [if_pos h]
    obtain ⟨e, hb⟩ := ok_text h
    unfold small2
    by_cases h2 : inR (val a)
    · rw [if_pos h2]; exact .inl ⟨val a, e.symm, h2, hb, rfl⟩
    · rw [if_neg h2]; exact .inr ⟨_, _, rfl, by omega⟩
  · rw [if_neg h]; exact .inr ⟨_, _, rfl, h⟩
set_option maxRecDepth 100000 in
set_option maxHeartbeats 8000000 in
theorem makes_c (a b : Txt) (w : World) (hg : Good w) (ha : a.length ≤ 140737488355328) (hb : b.length ≤ 140737488355328) : Calls Tryz.prog 5 #[.string ⟨a.toArray⟩, .string ⟨b.toArray⟩] w (Ret w (.bool true)) := by
  have HG := Lib.hid hg
  have hB0 := Below.refl w.heap.size w
  have f1 := fun W => FewInt_c a W
  have f2 := fun W => FewInt_c b W
  have M1 := Lib.hid (fun W hW => qMake_c a b W hW ha hb)
  have M2 := Lib.hid (fun W => rMake_q a b W ha hb)
  have S1 := Lib.hid (fun W => rSmall_c a W ha)
  have S2 := Lib.hid (fun W => rSmall_c b W hb)
  have bm := mk2_bd a b
  have HOF := Lib.hid (show ∀ n m : Int, a = Lib.itoa n → b = Lib.itoa m → inR n → inR m → n.natAbs < big → m.natAbs < big → ∀ W, Good W → Calls Tryz.prog 34 #[.int .i64 n, .int .i64 m] W (Ret W (ans2 (mk2 a b))) from by
    rintro n m rfl rfl hn hm bn bm W hW
    rw [mk2_itoa bn bm]; exact qOf_c n m W hW hn.1 hn.2 hm.1 hm.2)
  obtain ⟨⟨tm, em⟩, h1⟩ : ∃ p, mk2 a b = p := ⟨_, rfl⟩
  rw [h1] at M1 M2 bm HOF
  obtain ⟨bm0, bm1⟩ := bm
  simp only at bm0 bm1
  have HC1 := Lib.hid (small_cases a); have HC2 := Lib.hid (small_cases b)
  clear h1 hg
  by_cases k1 : a.length ≤ 120
  · rw [decide_eq_true k1] at f1
    have F1 := Lib.hid f1
    by_cases k2 : b.length ≤ 120
    · rw [decide_eq_true k2] at f2
      have F2 := Lib.hid f2
      clear f1 f2 k1 k2
      rcases HC1.out with ⟨n, en, rn, bn, hn⟩ | ⟨x1, e1, hn, he1⟩
      · rw [hn] at S1
        rcases HC2.out with ⟨m, em2, rm, bm, hm⟩ | ⟨x2, e2, hm, he2⟩
        · rw [hm] at S2
          have O := Lib.hid (HOF.out n m en em2 rn rm bn bm)
          obtain ⟨n0, n1⟩ := rn
          have W1 := Lib.hid (fun W hW => qWhole_c n W hW n0 n1)
          have W2 := Lib.hid (fun W => rWhole_q n W n0 n1)
          obtain ⟨m0, m1⟩ := rm
          clear HC1 HC2 HOF en em2 bn bm hn hm ha hb
          generalize Lib.itoa n = tn at *
          go_enter Tryz.func5, Tryz.ntmps5
          go_wp2_with fail
          ((with_reducible refine (F1.out _).mono ?_); rintro e w' ⟨rfl, rfl⟩)
          go_wp2_with fail
          ((with_reducible refine (F2.out _).mono ?_); rintro e w' ⟨rfl, rfl⟩)
          go_wp2_with fail
          ((with_reducible refine (M1.out _ (HG.out.later hB0)).mono ?_); rintro e w1 ⟨rfl, hb1⟩)
          have hB1 := hB0.trans (hb1.mono hB0.size); clear hb1
          go_wp2_with fail
          ((with_reducible refine (M2.out _).mono ?_); rintro e w2 ⟨rfl, hb2⟩)
          have hB2 := hB1.trans (hb2.mono hB1.size); clear hb2
          go_wp2_with fail
          ((with_reducible refine (S1.out _).mono ?_); rintro e w3 ⟨rfl, hb3⟩)
          have hB3 := hB2.trans (hb3.mono hB2.size); clear hb3
          go_wp2_with fail
          ((with_reducible refine (S2.out _).mono ?_); rintro e w4 ⟨rfl, hb4⟩)
          have hB4 := hB3.trans (hb4.mono hB3.size); clear hb4
          go_wp2_with fail
          ((with_reducible refine (O.out _ (HG.out.later hB4)).mono ?_); rintro e w5 ⟨rfl, hb5⟩)
          have hB5 := hB4.trans (hb5.mono hB4.size); clear hb5
          go_wp2_with fail
          ((with_reducible refine (W1.out _ (HG.out.later hB5)).mono ?_); rintro e w6 ⟨rfl, hb6⟩)
          have hB6 := hB5.trans (hb6.mono hB5.size); clear hb6
          go_wp2_with fail
          ((with_reducible refine (W2.out _).mono ?_); rintro e w7 ⟨rfl, hb7⟩)
          have hB7 := hB6.trans (hb7.mono hB6.size); clear hb7
          go_wp2_with fail
          ((with_reducible refine (awake2_c _ (HG.out.later hB7)).mono ?_); rintro e w8 ⟨rfl, hb8⟩)
          have hB8 := hB7.trans (hb8.mono hB7.size); clear hb8
          go_wp2
          go_ret
          exact ⟨rfl, hB8⟩
        · rw [hm] at S2
          have h3 := bne_ne he2
          clear HC1 HC2 HOF hn hm he2 ha hb en bn rn
          go_enter Tryz.func5, Tryz.ntmps5
          go_wp2_with fail
          ((with_reducible refine (F1.out _).mono ?_); rintro e w' ⟨rfl, rfl⟩)
          go_wp2_with fail
          ((with_reducible refine (F2.out _).mono ?_); rintro e w' ⟨rfl, rfl⟩)
          go_wp2_with fail
          ((with_reducible refine (M1.out _ (HG.out.later hB0)).mono ?_); rintro e w1 ⟨rfl, hb1⟩)
          have hB1 := hB0.trans (hb1.mono hB0.size); clear hb1
          go_wp2_with fail
          ((with_reducible refine (M2.out _).mono ?_); rintro e w2 ⟨rfl, hb2⟩)
          have hB2 := hB1.trans (hb2.mono hB1.size); clear hb2
          go_wp2_with fail
          ((with_reducible refine (S1.out _).mono ?_); rintro e w3 ⟨rfl, hb3⟩)
          have hB3 := hB2.trans (hb3.mono hB2.size); clear hb3
          go_wp2_with fail
          ((with_reducible refine (S2.out _).mono ?_); rintro e w4 ⟨rfl, hb4⟩)
          have hB4 := hB3.trans (hb4.mono hB3.size); clear hb4
          go_wp2_with fail
          ((with_reducible refine (awake2_c _ (HG.out.later hB4)).mono ?_); rintro e w5 ⟨rfl, hb5⟩)
          have hB5 := hB4.trans (hb5.mono hB4.size); clear hb5
          go_wp2
          go_ret
          exact ⟨rfl, hB5⟩
      · rw [hn] at S1
        have h3 := bne_ne he1
        obtain ⟨⟨x2, e2⟩, hm⟩ : ∃ p, un2 small2 b = p := ⟨_, rfl⟩
        rw [hm] at S2
        clear HC1 HC2 HOF hn hm he1 ha hb
        go_enter Tryz.func5, Tryz.ntmps5
        go_wp2_with fail
        ((with_reducible refine (F1.out _).mono ?_); rintro e w' ⟨rfl, rfl⟩)
        go_wp2_with fail
        ((with_reducible refine (F2.out _).mono ?_); rintro e w' ⟨rfl, rfl⟩)
        go_wp2_with fail
        ((with_reducible refine (M1.out _ (HG.out.later hB0)).mono ?_); rintro e w1 ⟨rfl, hb1⟩)
        have hB1 := hB0.trans (hb1.mono hB0.size); clear hb1
        go_wp2_with fail
        ((with_reducible refine (M2.out _).mono ?_); rintro e w2 ⟨rfl, hb2⟩)
        have hB2 := hB1.trans (hb2.mono hB1.size); clear hb2
        go_wp2_with fail
        ((with_reducible refine (S1.out _).mono ?_); rintro e w3 ⟨rfl, hb3⟩)
        have hB3 := hB2.trans (hb3.mono hB2.size); clear hb3
        go_wp2_with fail
        ((with_reducible refine (S2.out _).mono ?_); rintro e w4 ⟨rfl, hb4⟩)
        have hB4 := hB3.trans (hb4.mono hB3.size); clear hb4
        go_wp2_with fail
        ((with_reducible refine (awake2_c _ (HG.out.later hB4)).mono ?_); rintro e w5 ⟨rfl, hb5⟩)
        have hB5 := hB4.trans (hb5.mono hB4.size); clear hb5
        go_wp2
        go_ret
        exact ⟨rfl, hB5⟩
    · rw [decide_eq_false k2] at f2
      have F2 := Lib.hid f2
      have d1 : decide ((a.length : Int) ≤ 1025) = true := decide_eq_true (by omega)
      clear f1 f2 k1 k2
      clear HC1 HC2 HOF M1 M2 S1 S2 ha hb
      go_enter Tryz.func5, Tryz.ntmps5
      go_wp2_with fail
      ((with_reducible refine (F1.out _).mono ?_); rintro e w' ⟨rfl, rfl⟩)
      go_wp2_with fail
      ((with_reducible refine (F2.out _).mono ?_); rintro e w' ⟨rfl, rfl⟩)
      go_wp2_with fail
      ((with_reducible refine (awake2_c _ (HG.out.later hB0)).mono ?_); rintro e w1 ⟨rfl, hb1⟩)
      have hB1 := hB0.trans (hb1.mono hB0.size); clear hb1
      go_wp2
      go_ret
      exact ⟨rfl, hB1⟩
  · rw [decide_eq_false k1] at f1
    have F1 := Lib.hid f1
    clear f1 f2 k1
    by_cases k3 : a.length ≤ 1025
    · have d1 : decide ((a.length : Int) ≤ 1025) = true := decide_eq_true (by omega)
      clear k3
      clear HC1 HC2 HOF M1 M2 S1 S2 ha hb
      go_enter Tryz.func5, Tryz.ntmps5
      go_wp2_with fail
      ((with_reducible refine (F1.out _).mono ?_); rintro e w' ⟨rfl, rfl⟩)
      go_wp2_with fail
      ((with_reducible refine (awake2_c _ (HG.out.later hB0)).mono ?_); rintro e w1 ⟨rfl, hb1⟩)
      have hB1 := hB0.trans (hb1.mono hB0.size); clear hb1
      go_wp2
      go_ret
      exact ⟨rfl, hB1⟩
    · have d1 : decide ((a.length : Int) ≤ 1025) = false := decide_eq_false (by omega)
      clear k3
      by_cases k4 : 3000 < a.length
      · have d2 : decide ((3000 : Int) < (a.length : Int)) = true := decide_eq_true (by omega)
        clear k4
        clear HC1 HC2 HOF M1 M2 S1 S2 ha hb
        go_enter Tryz.func5, Tryz.ntmps5
        go_wp2_with fail
        ((with_reducible refine (F1.out _).mono ?_); rintro e w' ⟨rfl, rfl⟩)
        go_wp2_with fail
        ((with_reducible refine (awake2_c _ (HG.out.later hB0)).mono ?_); rintro e w1 ⟨rfl, hb1⟩)
        have hB1 := hB0.trans (hb1.mono hB0.size); clear hb1
        go_wp2
        go_ret
        exact ⟨rfl, hB1⟩
      · have d2 : decide ((3000 : Int) < (a.length : Int)) = false := decide_eq_false (by omega)
        clear k4
        by_cases k5 : 3000 < b.length
        · have d3 : decide ((3000 : Int) < (b.length : Int)) = true := decide_eq_true (by omega)
          clear k5
          clear HC1 HC2 HOF M1 M2 S1 S2 ha hb
          go_enter Tryz.func5, Tryz.ntmps5
          go_wp2_with fail
          ((with_reducible refine (F1.out _).mono ?_); rintro e w' ⟨rfl, rfl⟩)
          go_wp2_with fail
          ((with_reducible refine (awake2_c _ (HG.out.later hB0)).mono ?_); rintro e w1 ⟨rfl, hb1⟩)
          have hB1 := hB0.trans (hb1.mono hB0.size); clear hb1
          go_wp2
          go_ret
          exact ⟨rfl, hB1⟩
        · have d3 : decide ((3000 : Int) < (b.length : Int)) = false := decide_eq_false (by omega)
          clear k5
          rcases HC1.out with ⟨n, en, rn, bn, hn⟩ | ⟨x1, e1, hn, he1⟩
          · rw [hn] at S1
            rcases HC2.out with ⟨m, em2, rm, bm, hm⟩ | ⟨x2, e2, hm, he2⟩
            · rw [hm] at S2
              have O := Lib.hid (HOF.out n m en em2 rn rm bn bm)
              obtain ⟨n0, n1⟩ := rn
              have W1 := Lib.hid (fun W hW => qWhole_c n W hW n0 n1)
              have W2 := Lib.hid (fun W => rWhole_q n W n0 n1)
              obtain ⟨m0, m1⟩ := rm
              clear HC1 HC2 HOF en em2 bn bm hn hm ha hb
              generalize Lib.itoa n = tn at *
              go_enter Tryz.func5, Tryz.ntmps5
              go_wp2_with fail
              ((with_reducible refine (F1.out _).mono ?_); rintro e w' ⟨rfl, rfl⟩)
              go_wp2_with fail
              ((with_reducible refine (M1.out _ (HG.out.later hB0)).mono ?_); rintro e w1 ⟨rfl, hb1⟩)
              have hB1 := hB0.trans (hb1.mono hB0.size); clear hb1
              go_wp2_with fail
              ((with_reducible refine (M2.out _).mono ?_); rintro e w2 ⟨rfl, hb2⟩)
              have hB2 := hB1.trans (hb2.mono hB1.size); clear hb2
              go_wp2_with fail
              ((with_reducible refine (S1.out _).mono ?_); rintro e w3 ⟨rfl, hb3⟩)
              have hB3 := hB2.trans (hb3.mono hB2.size); clear hb3
              go_wp2_with fail
              ((with_reducible refine (S2.out _).mono ?_); rintro e w4 ⟨rfl, hb4⟩)
              have hB4 := hB3.trans (hb4.mono hB3.size); clear hb4
              go_wp2_with fail
              ((with_reducible refine (O.out _ (HG.out.later hB4)).mono ?_); rintro e w5 ⟨rfl, hb5⟩)
              have hB5 := hB4.trans (hb5.mono hB4.size); clear hb5
              go_wp2_with fail
              ((with_reducible refine (W1.out _ (HG.out.later hB5)).mono ?_); rintro e w6 ⟨rfl, hb6⟩)
              have hB6 := hB5.trans (hb6.mono hB5.size); clear hb6
              go_wp2_with fail
              ((with_reducible refine (W2.out _).mono ?_); rintro e w7 ⟨rfl, hb7⟩)
              have hB7 := hB6.trans (hb7.mono hB6.size); clear hb7
              go_wp2_with fail
              ((with_reducible refine (awake2_c _ (HG.out.later hB7)).mono ?_); rintro e w8 ⟨rfl, hb8⟩)
              have hB8 := hB7.trans (hb8.mono hB7.size); clear hb8
              go_wp2
              go_ret
              exact ⟨rfl, hB8⟩
            · rw [hm] at S2
              have h3 := bne_ne he2
              clear HC1 HC2 HOF hn hm he2 ha hb en bn rn
              go_enter Tryz.func5, Tryz.ntmps5
              go_wp2_with fail
              ((with_reducible refine (F1.out _).mono ?_); rintro e w' ⟨rfl, rfl⟩)
              go_wp2_with fail
              ((with_reducible refine (M1.out _ (HG.out.later hB0)).mono ?_); rintro e w1 ⟨rfl, hb1⟩)
              have hB1 := hB0.trans (hb1.mono hB0.size); clear hb1
              go_wp2_with fail
              ((with_reducible refine (M2.out _).mono ?_); rintro e w2 ⟨rfl, hb2⟩)
              have hB2 := hB1.trans (hb2.mono hB1.size); clear hb2
              go_wp2_with fail
              ((with_reducible refine (S1.out _).mono ?_); rintro e w3 ⟨rfl, hb3⟩)
              have hB3 := hB2.trans (hb3.mono hB2.size); clear hb3
              go_wp2_with fail
              ((with_reducible refine (S2.out _).mono ?_); rintro e w4 ⟨rfl, hb4⟩)
              have hB4 := hB3.trans (hb4.mono hB3.size); clear hb4
              go_wp2_with fail
              ((with_reducible refine (awake2_c _ (HG.out.later hB4)).mono ?_); rintro e w5 ⟨rfl, hb5⟩)
              have hB5 := hB4.trans (hb5.mono hB4.size); clear hb5
              go_wp2
              go_ret
              exact ⟨rfl, hB5⟩
          · rw [hn] at S1
            have h3 := bne_ne he1
            obtain ⟨⟨x2, e2⟩, hm⟩ : ∃ p, un2 small2 b = p := ⟨_, rfl⟩
            rw [hm] at S2
            clear HC1 HC2 HOF hn hm he1 ha hb
            go_enter Tryz.func5, Tryz.ntmps5
            go_wp2_with fail
            ((with_reducible refine (F1.out _).mono ?_); rintro e w' ⟨rfl, rfl⟩)
            go_wp2_with fail
            ((with_reducible refine (M1.out _ (HG.out.later hB0)).mono ?_); rintro e w1 ⟨rfl, hb1⟩)
            have hB1 := hB0.trans (hb1.mono hB0.size); clear hb1
            go_wp2_with fail
            ((with_reducible refine (M2.out _).mono ?_); rintro e w2 ⟨rfl, hb2⟩)
            have hB2 := hB1.trans (hb2.mono hB1.size); clear hb2
            go_wp2_with fail
            ((with_reducible refine (S1.out _).mono ?_); rintro e w3 ⟨rfl, hb3⟩)
            have hB3 := hB2.trans (hb3.mono hB2.size); clear hb3
            go_wp2_with fail
            ((with_reducible refine (S2.out _).mono ?_); rintro e w4 ⟨rfl, hb4⟩)
            have hB4 := hB3.trans (hb4.mono hB3.size); clear hb4
            go_wp2_with fail
            ((with_reducible refine (awake2_c _ (HG.out.later hB4)).mono ?_); rintro e w5 ⟨rfl, hb5⟩)
            have hB5 := hB4.trans (hb5.mono hB4.size); clear hb5
            go_wp2
            go_ret
            exact ⟨rfl, hB5⟩
set_option maxRecDepth 100000 in
set_option maxHeartbeats 4000000 in
theorem sums_c {v : Value} (ls : List Txt) (w : World) (hg : Good w) (h : SlS w v ls) (hls : ls.length ≤ 140737488355328) (hlen : ∀ l ∈ ls, l.length ≤ 140737488355328) :
    Calls Tryz.prog 6 #[v] w (Ret w (.bool true)) := by
  have HG := Lib.hid hg; have HV := Lib.hid h
  have hB0 := Below.refl w.heap.size w
  have HF := Lib.hid (fun W hv => FewAllQ_c (v := v) ls W hv hls hlen)
  have HT := Lib.hid (fun W hW hv => qSum_c (v := v) ls W hW hv hls hlen)
  have HT2 := Lib.hid (fun W hv => rSum_q (v := v) ls W hv hls hlen)
  have bt := sum2_bd ls
  obtain ⟨⟨t, et⟩, h1⟩ : ∃ p, sum2 ls = p := ⟨_, rfl⟩
  rw [h1] at HT HT2 bt
  obtain ⟨t0, t1⟩ := bt
  simp only at t0 t1
  clear h1 hg h hls hlen
  go_enter Tryz.func6, Tryz.ntmps6
  go_wp2_with fail
  ((with_reducible refine (HF.out _ HV.out).mono ?_); rintro e w1 ⟨b, rfl, hb1⟩)
  have hB1 := hB0.trans (hb1.mono hB0.size)
  clear hb1
  cases b
  · go_wp2_with fail
    ((with_reducible refine (awake2_c _ (HG.out.later hB1)).mono ?_); rintro e w2 ⟨rfl, hb2⟩)
    have hB2 := hB1.trans (hb2.mono hB1.size); clear hb2
    go_wp2
    go_ret
    exact ⟨rfl, hB2⟩
  · go_wp2_with fail
    ((with_reducible refine (HT.out _ (HG.out.later hB1) (HV.out.later hB1)).mono ?_); rintro e w2 ⟨rfl, hb2⟩)
    have hB2 := hB1.trans (hb2.mono hB1.size); clear hb2
    go_wp2_with fail
    ((with_reducible refine (HT2.out _ (HV.out.later hB2)).mono ?_); rintro e w3 ⟨rfl, hb3⟩)
    have hB3 := hB2.trans (hb3.mono hB2.size); clear hb3
    go_wp2_with fail
    ((with_reducible refine (awake2_c _ (HG.out.later hB3)).mono ?_); rintro e w4 ⟨rfl, hb4⟩)
    have hB4 := hB3.trans (hb4.mono hB3.size); clear hb4
    go_wp2
    go_ret
    exact ⟨rfl, hB4⟩
end Go.Proofs.Wk
