/- THE PROGRAM's ARITHMETIC: the greatest common divisor. -/
import Derived.Test.YtjljappilpkelaaGreatDoorWhP
namespace Go.Proofs.Wk
open Go.RowKit Mt

theorem gcd_step (X Y : Nat) : Nat.gcd Y (X % Y) = Nat.gcd X Y := by rw [Nat.gcd_comm Y, ← Nat.gcd_rec, Nat.gcd_comm]
theorem wat_word {X : Nat} (h : X < wmax) (h1 : wlen X ≤ 1) : wat X 0 = X := by
  have e := wpre_all h h1
  rw [wpre_succ, wpre_zero] at e
  simpa using e
def gcd2 (m n : Int) : Txt × Int := (Lib.itoa (Int.gcd m n), 0)
theorem gcd_int (m n : Int) : Int.gcd m n = Nat.gcd m.natAbs n.natAbs := rfl

set_option maxRecDepth 100000 in
set_option maxHeartbeats 2000000 in
theorem gcd_ok (m n : Int) (w : World) (hg : Good w) (hm : m.natAbs < big) (hn : n.natAbs < big) : Calls Tryz.prog 15 #[.string ⟨(Lib.itoa m).toArray⟩, .string ⟨(Lib.itoa n).toArray⟩] w (Ret w (ans2 (gcd2 m n))) := by
  have HB := Lib.hid (fun t => allz (Lib.itoa m) (Lib.itoa n) w (lng_txt hm) (lng_txt hn) t)
  rw [both_ok hm hn] at HB
  have HG := Lib.hid hg
  have HRM := Lib.hid (fun W => read_c m W (by have := lng_big hm; omega))
  have HRN := Lib.hid (fun W => read_c n W (by have := lng_big hn; omega))
  unfold gcd2
  rw [gcd_int]
  have hYl : wlen n.natAbs ≤ 231 := (wlen_le 231 _).2 (Nat.lt_of_lt_of_le (big_words hn) (Nat.pow_le_pow_right (by omega) (by omega)))
  obtain ⟨sx, hsx⟩ : ∃ s, decide (m < 0) = s := ⟨_, rfl⟩
  obtain ⟨sy, hsy⟩ : ∃ s, decide (n < 0) = s := ⟨_, rfl⟩
  obtain ⟨X, hX⟩ : ∃ X, m.natAbs = X := ⟨_, rfl⟩
  obtain ⟨Y, hY⟩ : ∃ Y, n.natAbs = Y := ⟨_, rfl⟩
  rw [hsx, hX] at HRM
  rw [hsy, hY] at HRN
  rw [hX, hY]
  rw [hY] at hYl
  obtain ⟨G, hG⟩ : ∃ G, Nat.gcd X Y = G := ⟨_, rfl⟩
  rw [hG]
  have HGG := Lib.hid hG; have HYL := Lib.hid hYl
  clear hsx hsy hX hY hG hYl hm hn hg
  go_enter Tryz.func15, Tryz.ntmps15
  go_wp2_with fail
  refine (HB.out _).mono ?_; rintro e w1 ⟨rfl, hb1⟩
  go_wp2_with fail
  refine (HRM.out _).mono ?_; rintro e w3 ⟨g, rfl, hgg, hC, hb3⟩
  have hB3 := hb1.trans (hb3.mono hb1.size)
  have HC := Lib.hid hC
  have hglt := hC.lt
  clear hC
  go_wp2_with fail
  refine (HRN.out _).mono ?_; rintro e w4 ⟨g2, rfl, hgg2, hC2, hb4⟩
  have hB4 := hB3.trans (hb4.mono hB3.size)
  have HC2 := Lib.hid hC2
  have HC1 := Lib.hid (HC.out.later hb4 hglt)
  have hw1 := hb1.size
  have hw3 := hB3.size
  clear hC2 HC
  go_wp2_with fail
  go_loopg [7, 8] Y (fun k px py wr => ∃ (a b : Nat) (s t : Bool) (A : Nat), px = .pointer (some ⟨a, 0, none⟩) ∧ py = .pointer (some ⟨b, 0, none⟩) ∧ w.heap.size ≤ a ∧ Hid (CW wr a s A) ∧ Hid (CW wr b t k) ∧ Hid (Nat.gcd A k = G) ∧ Hid (wlen k ≤ 231) ∧ w.heap.size ≤ b ∧ Below w.heap.size w wr)
  case atStart => exact ⟨g, g2, sx, sy, X, rfl, rfl, by omega, HC1, HC2, HGG, HYL, by omega, hB4⟩
  case round =>
    clear HC1 HC2 HGG HYL
    obtain ⟨a, b, s, t, A, rfl, rfl, ha, hA, hB, hG, hl, hb, hBw⟩ := hrel
    have ca1 := hA.out.2.c1
    have cb1 := hB.out.2.c1
    have hal := hA.out.lt
    have hbl := hB.out.lt
    by_cases hk : gk = 0
    · subst hk
      rw [wlen_zero] at cb1
      have hf := hA.out.2.free 0
      have c0 := hA.out.2.c0
      have hA2 := Lib.hid (hA.out.set0 false)
      have hBw2 := Lib.hid (hBw.setCell (p := ⟨a, 0, none⟩) ha (.bool false))
      have hAG : A = G := by rw [← hG.out, Nat.gcd_zero_right]
      have HAG := Lib.hid hAG
      clear ca1 hAG
      go_wp2_with fail
      refine (text_c a false A _ hA2.out (HG.out.later hBw2.out)).mono ?_; rintro e w5 ⟨rfl, hb5⟩
      have hB5 := hBw2.out.trans (hb5.mono hBw2.out.size)
      go_wp2
      go_ret2
      refine ⟨?_, hB5⟩
      rw [← HAG.out]
      rfl
    · have hk1 : 0 < wlen gk := by have := mt wlen_eq_zero.1 hk; omega
      have HK := Lib.hid hk
      have hwa := hA.out.wl
      have hwb := hB.out.wl
      clear hk
      by_cases hs : wlen A ≤ 1 ∧ wlen gk ≤ 1
      · obtain ⟨h1, h2⟩ := hs
        have ca2 := hA.out.2.cw (i := 0) (by rw [wds_length]; omega)
        have cb2 := hB.out.2.cw (i := 0) (by rw [wds_length]; omega)
        rw [wat_get (by rw [wds_length]; omega), wat_word hA.out.1 h1] at ca2
        rw [wat_get (by rw [wds_length]; omega), wat_word hB.out.1 h2] at cb2
        have hA9 : A < 1000000000 := by have := (wlen_le 1 A).1 h1; omega
        have hB9 : gk < 1000000000 := by have := (wlen_le 1 gk).1 h2; omega
        rw [Nat.add_zero] at ca2 cb2
        have HA9 := Lib.hid hA9; have HB9 := Lib.hid hB9
        clear hwa hwb hA9 hB9
        go_wp2_with fail
        try go_quiet (fail)
        go_wp2_with fail
        obtain ⟨wo, rfl⟩ : ∃ wo : World, wo = wr := ⟨_, rfl⟩
        go_loopw [9, 10] (fun p q wr => ∃ (x y : Nat), p = .int .i64 (x : Int) ∧ q = .int .i64 (y : Int) ∧ x < 1000000000 ∧ y < 1000000000 ∧ Hid (Nat.gcd x y = G) ∧ Below w.heap.size w wr) (fun _ q _ => (intOf q).toNat)
        case atStart => exact ⟨A, gk, rfl, rfl, HA9.out, HB9.out, hG, by first | exact hBw | exact below_drewN hBw _⟩
        case round =>
          clear ca1 cb1 ca2 cb2 hA hB hG hBw HA9 HB9
          obtain ⟨x, y, rfl, rfl, hx, hy, hG, hBw⟩ := hrel
          by_cases hy0 : y = 0
          · subst hy0
            have hxG : x = G := by rw [← hG.out, Nat.gcd_zero_right]
            have HAG := Lib.hid hxG
            clear hxG
            go_wp2_with fail
            refine (wOf_c (x : Int) _ (HG.out.later hBw) (by omega) (by omega)).mono ?_; rintro e w5 ⟨rfl, hb5⟩
            have hB5 := hBw.trans (hb5.mono hBw.size)
            go_wp2
            go_ret2
            refine ⟨?_, hB5⟩
            rw [← HAG.out]
            rfl
          · have hyp : 0 < y := by omega
            have hst := gcd_step x y
            have hlt := Nat.mod_lt x hyp
            have HST := Lib.hid hst
            clear hst
            go_wp2_with fail
            go_quiet (fail)
            go_wp2_with fail
            go_roundw
            case rel => exact ⟨y, x % y, rfl, by go_num, hy, by omega, by show _ = _; rw [HST.out]; exact hG.out, below_drewN hBw _⟩
            case measure => simp [intOf]; omega
      · have hpick : ¬ wlen A ≤ 1 ∨ (wlen A ≤ 1 ∧ ¬ wlen gk ≤ 1) := by
          by_cases h1 : wlen A ≤ 1
          · exact .inr ⟨h1, fun h2 => hs ⟨h1, h2⟩⟩
          · exact .inl h1
        clear hs
        have hst := gcd_step A gk
        have hmod := Nat.mod_lt A (Nat.pos_of_ne_zero HK.out)
        have hml := less_wlen hmod hl.out
        have HST := Lib.hid hst; have HMOD := Lib.hid hmod; have HML := Lib.hid hml
        clear hst hmod hml
        rcases hpick with h1 | ⟨h1, h2⟩
        all_goals
          go_wp2_with fail
          try go_quiet (fail)
          go_wp2_with fail
          refine (divided_c a b s t A gk _ hA.out hB.out HK.out hl.out).mono ?_; rintro e w5 ⟨gq, gr, rfl, hgq, hgr, hqr, hCq, hCr, hb5⟩
          have hB5 := hBw.trans (hb5.mono hBw.size)
          have hk5 := hB.out.later hb5 hbl
          have hs0 := hBw.size
          go_wp2_with fail
          go_roundg (A % gk)
          case measure => exact HMOD.out
          case rel => exact ⟨b, gr, t, false, gk, rfl, rfl, hb, hk5, hCr, by show _ = _; rw [HST.out]; exact hG.out, HML, by omega, hB5⟩
end Go.Proofs.Wk
