/- THE PROGRAM's RATIONAL NUMBERS: the check of a text, of several, its parts. -/
import Derived.Test.YtachiilmgnognaaGreatDoorRtA
import Derived.Test.YtachiilmgnognaaGreatDoorRqB
import Derived.Test.YtachiilmgnognaaGreatDoorRatB
import Derived.Test.YtachiilmgnognaaGreatDoorGL
namespace Go.Proofs.Wk
open Go.RowKit Mt

set_option maxRecDepth 100000 in
set_option maxHeartbeats 1000000 in
theorem qCheck_c (l : Txt) (w : World) (hg : Good w) (hl : l.length ≤ 140737488355328) : Calls Tryz.prog 48 #[.string ⟨l.toArray⟩] w (Ret w (.int .i64 (rchk l))) := by
  have hB0 := Below.refl w.heap.size w
  have HG := Lib.hid hg
  obtain ⟨ln, ld⟩ := rpart_le l hl (by omega)
  have HSp := Lib.hid (fun W => cut_c l W hl)
  have HN := Lib.hid (fun W => wCheck_c (rnum l) W ln)
  have HD := Lib.hid (fun W => wCheck_c (rden l) W ld)
  clear ln ld hl hg
  rcases chk_three (rnum l) with h1 | h1 | h1 <;> rw [h1] at HN <;> rcases chk_three (rden l) with h2 | h2 | h2 <;> rw [h2] at HD
  · rw [show rchk l = 3 by unfold rchk; rw [if_pos (.inl h1)]]
    generalize rnum l = A at *
    generalize rden l = B at *
    generalize rhas l = o at *
    clear h1 h2
    go_enter Tryz.func48, Tryz.ntmps48
    go_wp2_with fail
    ((with_reducible refine (HSp.out _).mono ?_); rintro e w1 ⟨rfl, hb1⟩)
    have hB1 := hB0.trans (hb1.mono hB0.size); clear hb1
    go_wp2_with fail
    ((with_reducible refine (HN.out _).mono ?_); rintro e w2 ⟨rfl, hb2⟩)
    have hB2 := hB1.trans (hb2.mono hB1.size); clear hb2
    go_wp2_with fail
    ((with_reducible refine (HD.out _).mono ?_); rintro e w3 ⟨rfl, hb3⟩)
    have hB3 := hB2.trans (hb3.mono hB2.size); clear hb3
    go_wp2
    go_ret
    exact ⟨rfl, hB3⟩
  · rw [show rchk l = 3 by unfold rchk; rw [if_pos (.inl h1)]]
    generalize rnum l = A at *
    generalize rden l = B at *
    generalize rhas l = o at *
    clear h1 h2
    go_enter Tryz.func48, Tryz.ntmps48
    go_wp2_with fail
    ((with_reducible refine (HSp.out _).mono ?_); rintro e w1 ⟨rfl, hb1⟩)
    have hB1 := hB0.trans (hb1.mono hB0.size); clear hb1
    go_wp2_with fail
    ((with_reducible refine (HN.out _).mono ?_); rintro e w2 ⟨rfl, hb2⟩)
    have hB2 := hB1.trans (hb2.mono hB1.size); clear hb2
    go_wp2_with fail
    ((with_reducible refine (HD.out _).mono ?_); rintro e w3 ⟨rfl, hb3⟩)
    have hB3 := hB2.trans (hb3.mono hB2.size); clear hb3
    go_wp2
    go_ret
    exact ⟨rfl, hB3⟩
  · rw [show rchk l = 3 by unfold rchk; rw [if_pos (.inl h1)]]
    generalize rnum l = A at *
    generalize rden l = B at *
    generalize rhas l = o at *
    clear h1 h2
    go_enter Tryz.func48, Tryz.ntmps48
    go_wp2_with fail
    ((with_reducible refine (HSp.out _).mono ?_); rintro e w1 ⟨rfl, hb1⟩)
    have hB1 := hB0.trans (hb1.mono hB0.size); clear hb1
    go_wp2_with fail
    ((with_reducible refine (HN.out _).mono ?_); rintro e w2 ⟨rfl, hb2⟩)
    have hB2 := hB1.trans (hb2.mono hB1.size); clear hb2
    go_wp2_with fail
    ((with_reducible refine (HD.out _).mono ?_); rintro e w3 ⟨rfl, hb3⟩)
    have hB3 := hB2.trans (hb3.mono hB2.size); clear hb3
    go_wp2
    go_ret
    exact ⟨rfl, hB3⟩
  · rw [show rchk l = 3 by unfold rchk; rw [if_pos (.inr h2)]]
    generalize rnum l = A at *
    generalize rden l = B at *
    generalize rhas l = o at *
    clear h1 h2
    go_enter Tryz.func48, Tryz.ntmps48
    go_wp2_with fail
    ((with_reducible refine (HSp.out _).mono ?_); rintro e w1 ⟨rfl, hb1⟩)
    have hB1 := hB0.trans (hb1.mono hB0.size); clear hb1
    go_wp2_with fail
    ((with_reducible refine (HN.out _).mono ?_); rintro e w2 ⟨rfl, hb2⟩)
    have hB2 := hB1.trans (hb2.mono hB1.size); clear hb2
    go_wp2_with fail
    ((with_reducible refine (HD.out _).mono ?_); rintro e w3 ⟨rfl, hb3⟩)
    have hB3 := hB2.trans (hb3.mono hB2.size); clear hb3
    go_wp2
    go_ret
    exact ⟨rfl, hB3⟩
  · rw [show rchk l = 11 by unfold rchk; rw [if_neg (by omega), if_pos (by omega)]]
    generalize rnum l = A at *
    generalize rden l = B at *
    generalize rhas l = o at *
    clear h1 h2
    go_enter Tryz.func48, Tryz.ntmps48
    go_wp2_with fail
    ((with_reducible refine (HSp.out _).mono ?_); rintro e w1 ⟨rfl, hb1⟩)
    have hB1 := hB0.trans (hb1.mono hB0.size); clear hb1
    go_wp2_with fail
    ((with_reducible refine (HN.out _).mono ?_); rintro e w2 ⟨rfl, hb2⟩)
    have hB2 := hB1.trans (hb2.mono hB1.size); clear hb2
    go_wp2_with fail
    ((with_reducible refine (HD.out _).mono ?_); rintro e w3 ⟨rfl, hb3⟩)
    have hB3 := hB2.trans (hb3.mono hB2.size); clear hb3
    go_wp2
    go_ret
    exact ⟨rfl, hB3⟩
  · rw [show rchk l = 11 by unfold rchk; rw [if_neg (by omega), if_pos (by omega)]]
    generalize rnum l = A at *
    generalize rden l = B at *
    generalize rhas l = o at *
    clear h1 h2
    go_enter Tryz.func48, Tryz.ntmps48
    go_wp2_with fail
    ((with_reducible refine (HSp.out _).mono ?_); rintro e w1 ⟨rfl, hb1⟩)
    have hB1 := hB0.trans (hb1.mono hB0.size); clear hb1
    go_wp2_with fail
    ((with_reducible refine (HN.out _).mono ?_); rintro e w2 ⟨rfl, hb2⟩)
    have hB2 := hB1.trans (hb2.mono hB1.size); clear hb2
    go_wp2_with fail
    ((with_reducible refine (HD.out _).mono ?_); rintro e w3 ⟨rfl, hb3⟩)
    have hB3 := hB2.trans (hb3.mono hB2.size); clear hb3
    go_wp2
    go_ret
    exact ⟨rfl, hB3⟩
  · rw [show rchk l = 3 by unfold rchk; rw [if_pos (.inr h2)]]
    generalize rnum l = A at *
    generalize rden l = B at *
    generalize rhas l = o at *
    clear h1 h2
    go_enter Tryz.func48, Tryz.ntmps48
    go_wp2_with fail
    ((with_reducible refine (HSp.out _).mono ?_); rintro e w1 ⟨rfl, hb1⟩)
    have hB1 := hB0.trans (hb1.mono hB0.size); clear hb1
    go_wp2_with fail
    ((with_reducible refine (HN.out _).mono ?_); rintro e w2 ⟨rfl, hb2⟩)
    have hB2 := hB1.trans (hb2.mono hB1.size); clear hb2
    go_wp2_with fail
    ((with_reducible refine (HD.out _).mono ?_); rintro e w3 ⟨rfl, hb3⟩)
    have hB3 := hB2.trans (hb3.mono hB2.size); clear hb3
    go_wp2
    go_ret
    exact ⟨rfl, hB3⟩
  · rw [show rchk l = 11 by unfold rchk; rw [if_neg (by omega), if_pos (by omega)]]
    generalize rnum l = A at *
    generalize rden l = B at *
    generalize rhas l = o at *
    clear h1 h2
    go_enter Tryz.func48, Tryz.ntmps48
    go_wp2_with fail
    ((with_reducible refine (HSp.out _).mono ?_); rintro e w1 ⟨rfl, hb1⟩)
    have hB1 := hB0.trans (hb1.mono hB0.size); clear hb1
    go_wp2_with fail
    ((with_reducible refine (HN.out _).mono ?_); rintro e w2 ⟨rfl, hb2⟩)
    have hB2 := hB1.trans (hb2.mono hB1.size); clear hb2
    go_wp2_with fail
    ((with_reducible refine (HD.out _).mono ?_); rintro e w3 ⟨rfl, hb3⟩)
    have hB3 := hB2.trans (hb3.mono hB2.size); clear hb3
    go_wp2
    go_ret
    exact ⟨rfl, hB3⟩
  · obtain ⟨en, bn⟩ := ok_text h1
    obtain ⟨ed, bd⟩ := ok_text h2
    cases hs : rhas l with
    | false =>
      rw [show rchk l = 0 by unfold rchk; rw [if_neg (by omega), if_neg (by omega), if_neg (by rw [hs]; simp)]]
      rw [hs] at HSp
      generalize rnum l = A at *
      generalize rden l = B at *
      clear h1 h2 hs en ed bn bd
      go_enter Tryz.func48, Tryz.ntmps48
      go_wp2_with fail
      ((with_reducible refine (HSp.out _).mono ?_); rintro e w1 ⟨rfl, hb1⟩)
      have hB1 := hB0.trans (hb1.mono hB0.size); clear hb1
      go_wp2_with fail
      ((with_reducible refine (HN.out _).mono ?_); rintro e w2 ⟨rfl, hb2⟩)
      have hB2 := hB1.trans (hb2.mono hB1.size); clear hb2
      go_wp2_with fail
      ((with_reducible refine (HD.out _).mono ?_); rintro e w3 ⟨rfl, hb3⟩)
      have hB3 := hB2.trans (hb3.mono hB2.size); clear hb3
      go_wp2
      go_ret
      exact ⟨rfl, hB3⟩
    | true =>
      rw [hs] at HSp
      have ho := fun W => cmpI (val (rden l)) 1 W (lng_big bd) (Nat.le_trans lng_one (by omega))
      have hgc := fun W hW => gcdI (val (rnum l)) (val (rden l)) W hW (lng_big bn) (lng_big bd)
      rw [ed, itoa_one] at ho
      rw [en, ed] at hgc
      have HO := Lib.hid ho; have HC := Lib.hid hgc
      have e := show rchk l = if val (rden l) ≤ 1 ∨ Int.gcd (val (rnum l)) (val (rden l)) ≠ 1 then 3 else 0 by
        unfold rchk; rw [if_neg (by omega), if_neg (by omega)]; simp [hs]
      rw [e]
      clear e ho hgc bn bd hs h1 h2
      generalize val (rnum l) = m at *
      generalize val (rden l) = d at *
      generalize rnum l = A at *
      generalize rden l = B at *
      have h4 := itoa_is_one (n := (Int.gcd m d : Int))
      by_cases h3 : d ≤ 1
      · rw [if_pos (.inl h3)]
        have hc : cmp d 1 = -1 ∨ cmp d 1 = 0 := by have := cmp_spec d 1; omega
        clear h3
        generalize Lib.itoa (Int.gcd m d : Int) = tg at *
        clear h4
        rcases hc with hc | hc <;> rw [hc] at HO <;> clear hc
        all_goals
          go_enter Tryz.func48, Tryz.ntmps48
          go_wp2_with fail
          ((with_reducible refine (HSp.out _).mono ?_); rintro e w1 ⟨rfl, hb1⟩)
          have hB1 := hB0.trans (hb1.mono hB0.size); clear hb1
          go_wp2_with fail
          ((with_reducible refine (HN.out _).mono ?_); rintro e w2 ⟨rfl, hb2⟩)
          have hB2 := hB1.trans (hb2.mono hB1.size); clear hb2
          go_wp2_with fail
          ((with_reducible refine (HD.out _).mono ?_); rintro e w3 ⟨rfl, hb3⟩)
          have hB3 := hB2.trans (hb3.mono hB2.size); clear hb3
          go_wp2_with fail
          ((with_reducible refine (HO.out _).mono ?_); rintro e w4 ⟨rfl, hb4⟩)
          have hB4 := hB3.trans (hb4.mono hB3.size); clear hb4
          go_wp2_with fail
          ((with_reducible refine (HC.out _ (HG.out.later hB4)).mono ?_); rintro e w5 ⟨rfl, hb5⟩)
          have hB5 := hB4.trans (hb5.mono hB4.size); clear hb5
          go_wp2
          go_ret
          exact ⟨rfl, hB5⟩
      · have hc : cmp d 1 = 1 := by have := cmp_spec d 1; omega
        rw [hc] at HO
        by_cases h5 : Int.gcd m d = 1
        · rw [if_neg (by rintro (h | h); exact h3 h; exact h h5)]
          rw [decide_eq_true (by omega)] at h4
          generalize (Int.gcd m d : Int) = g at *
          generalize Lib.itoa g = tg at *
          have h6 : (tg != [49]) = false := by unfold bne; rw [h4]; rfl
          clear h3 hc h5
          go_enter Tryz.func48, Tryz.ntmps48
          go_wp2_with fail
          ((with_reducible refine (HSp.out _).mono ?_); rintro e w1 ⟨rfl, hb1⟩)
          have hB1 := hB0.trans (hb1.mono hB0.size); clear hb1
          go_wp2_with fail
          ((with_reducible refine (HN.out _).mono ?_); rintro e w2 ⟨rfl, hb2⟩)
          have hB2 := hB1.trans (hb2.mono hB1.size); clear hb2
          go_wp2_with fail
          ((with_reducible refine (HD.out _).mono ?_); rintro e w3 ⟨rfl, hb3⟩)
          have hB3 := hB2.trans (hb3.mono hB2.size); clear hb3
          go_wp2_with fail
          ((with_reducible refine (HO.out _).mono ?_); rintro e w4 ⟨rfl, hb4⟩)
          have hB4 := hB3.trans (hb4.mono hB3.size); clear hb4
          go_wp2_with fail
          ((with_reducible refine (HC.out _ (HG.out.later hB4)).mono ?_); rintro e w5 ⟨rfl, hb5⟩)
          have hB5 := hB4.trans (hb5.mono hB4.size); clear hb5
          go_wp2
          go_ret
          exact ⟨rfl, hB5⟩
        · rw [if_pos (.inr h5)]
          rw [decide_eq_false (by omega)] at h4
          generalize (Int.gcd m d : Int) = g at *
          generalize Lib.itoa g = tg at *
          have h6 : (tg != [49]) = true := by unfold bne; rw [h4]; rfl
          clear h3 hc h5
          go_enter Tryz.func48, Tryz.ntmps48
          go_wp2_with fail
          ((with_reducible refine (HSp.out _).mono ?_); rintro e w1 ⟨rfl, hb1⟩)
          have hB1 := hB0.trans (hb1.mono hB0.size); clear hb1
          go_wp2_with fail
          ((with_reducible refine (HN.out _).mono ?_); rintro e w2 ⟨rfl, hb2⟩)
          have hB2 := hB1.trans (hb2.mono hB1.size); clear hb2
          go_wp2_with fail
          ((with_reducible refine (HD.out _).mono ?_); rintro e w3 ⟨rfl, hb3⟩)
          have hB3 := hB2.trans (hb3.mono hB2.size); clear hb3
          go_wp2_with fail
          ((with_reducible refine (HO.out _).mono ?_); rintro e w4 ⟨rfl, hb4⟩)
          have hB4 := hB3.trans (hb4.mono hB3.size); clear hb4
          go_wp2_with fail
          ((with_reducible refine (HC.out _ (HG.out.later hB4)).mono ?_); rintro e w5 ⟨rfl, hb5⟩)
          have hB5 := hB4.trans (hb5.mono hB4.size); clear hb5
          go_wp2
          go_ret
          exact ⟨rfl, hB5⟩
theorem firstR_drop {ls : List Txt} {i : Nat} (h : i < ls.length) : firstR (ls.drop i) = if rchk ls[i] = 0 then firstR (ls.drop (i + 1)) else rchk ls[i] := by
  rw [List.drop_eq_getElem_cons h]; rfl
set_option maxRecDepth 100000 in
theorem checks_e (a : Option Addr) (c : Nat) (w : World) : Calls Tryz.prog 65 #[.slice a 0 c] w (Pur w (.int .i64 0)) := by
  go_enter Tryz.func65, Tryz.ntmps65
  go_wp2
  go_loop [8] (fun s => s = .int .i64 0) (fun _ => 0)
  case atStart => rfl
  case round =>
    subst hrel
    go_wp2
    go_ret
    exact ⟨rfl, rfl⟩
set_option maxRecDepth 100000 in
set_option maxHeartbeats 1000000 in
theorem checks_c {v : Value} (ls : List Txt) (w : World) (hg : Good w) (h : SlS w v ls) (hls : ls.length ≤ 140737488355328) (hlen : ∀ l ∈ ls, l.length ≤ 140737488355328) :
    Calls Tryz.prog 65 #[v] w (Ret w (.int .i64 (firstR ls))) := by
  rcases h with ⟨a, c, rfl, rfl⟩ | ⟨b, off, c, rfl, hR, hl⟩
  · exact (checks_e a c w).mono fun _ _ h => h.ret
  · have HR := Lib.hid hR; have HL := Lib.hid hlen; have HG := Lib.hid hg
    obtain ⟨n, hnn⟩ : ∃ n, ls.length = n := ⟨_, rfl⟩
    rw [hnn] at hls ⊢
    have HN := Lib.hid hnn
    clear hnn hR hlen hg
    go_enter Tryz.func65, Tryz.ntmps65
    go_wp2_with fail
    go_loopw [8] (fun si wr => ∃ i : Nat, si = .int .i64 (i : Int) ∧ i ≤ n ∧ Hid (firstR (ls.drop i) = firstR ls) ∧ Below w.heap.size w wr) (fun si _ => n - (intOf si).toNat)
    case atStart => exact ⟨0, rfl, Nat.zero_le _, rfl, Below.refl _ _⟩
    case round =>
      obtain ⟨i, rfl, hi, hE, hB⟩ := hrel
      by_cases hlt : i < n
      · have hil : i < ls.length := by rw [HN.out]; exact hlt
        have hc := (HR.out.later hB hl) i hil
        have hd := firstR_drop hil
        have hll := HL.out ls[i] (List.getElem_mem hil)
        obtain ⟨l, hle⟩ : ∃ l, ls[i] = l := ⟨_, rfl⟩
        rw [hle] at hc hd hll
        have HC := Lib.hid (qCheck_c l wr (HG.out.later hB) hll)
        by_cases h0 : rchk l = 0
        · rw [h0] at HC
          have HE := Lib.hid (show firstR (ls.drop (i + 1)) = firstR ls by rw [← hE.out, hd, if_pos h0])
          clear hle hd hll h0
          go_wp2_with fail
          ((with_reducible refine (HC.out).mono ?_); rintro e w2 ⟨rfl, hb2⟩)
          have hB2 := hB.trans (hb2.mono hB.size)
          go_wp2
          go_roundw
          case rel => exact ⟨i + 1, by go_num, by omega, HE, hB2⟩
          case measure => simp [intOf]; omega
        · have HE := Lib.hid (show firstR ls = rchk l by rw [← hE.out, hd, if_neg h0])
          have h3 := bne_ne h0
          clear hle hd hll h0
          obtain ⟨x, hx⟩ : ∃ x, rchk l = x := ⟨_, rfl⟩
          rw [hx] at HE HC h3
          clear hx
          go_wp2_with fail
          ((with_reducible refine (HC.out).mono ?_); rintro e w2 ⟨rfl, hb2⟩)
          have hB2 := hB.trans (hb2.mono hB.size)
          go_wp2
          go_ret
          rw [HE.out]
          exact ⟨rfl, hB2⟩
      · obtain rfl : i = n := by omega
        have HE := Lib.hid (show firstR ls = 0 by rw [← hE.out, ← HN.out, List.drop_length]; rfl)
        go_wp2
        go_ret
        rw [HE.out]
        exact ⟨rfl, hB⟩
end Go.Proofs.Wk
