/- THE PROGRAM's RATIONAL NUMBERS: the check of a text, of several, its parts. -/
import Derived.Test.YtcdjhgkeehhaaaaGreatDoorHF
import Derived.Test.YtcdjhgkeehhaaaaGreatDoorHC
import Derived.Test.YtcdjhgkeehhaaaaGreatDoorHA
import Derived.Test.YtcdjhgkeehhaaaaGreatDoorGL
import Derived.Test.YtcdjhgkeehhaaaaGreatDoorHE
namespace Go.Proofs.Wk
open Go.RowKit Mt

set_option maxRecDepth 100000 in
set_option maxHeartbeats 1000000 in
theorem qCheck_c (l : Txt) (w : World) (hg : Good w) (hl : l.length ≤ 140737488355328) : Calls Tryz.prog 33 #[.string ⟨l.toArray⟩] w (Ret w (.int .i64 (rchk l))) := by
  have hB0 := Below.refl w.heap.size w
  have HG := Lib.hid hg
  obtain ⟨ln, ld⟩ := rpart_le l hl (by omega)
  have HSp := Lib.hid (fun W => cut_c l W hl)
  have HN := Lib.hid (fun W => wCheck_c (rnum l) W ln)
  have HD := Lib.hid (fun W => wCheck_c (rden l) W ld)
  clear ln ld hl hg
  rcases chk_three (rnum l) with h1 | h1 | h1 <;> rw [h1] at HN <;> rcases chk_three (rden l) with h2 | h2 | h2 <;> rw [h2] at HD
  · rw [show rchk l = 3 by unfold rchk; rw [if_pos (.inl h1)]]
    generalize rnum l = A at *
    generalize rden l = B at *
    generalize rhas l = o at *
    clear h1 h2
    go_enter Tryz.func33, Tryz.ntmps33
    go_wp2_with fail
    ((with_reducible refine (HSp.out _).mono ?_); rintro e w1 ⟨rfl, hb1⟩)
    have hB1 := hB0.trans (hb1.mono hB0.size); clear hb1
    go_wp2_with fail
    ((with_reducible refine (HN.out _).mono ?_); rintro e w2 ⟨rfl, hb2⟩)
    have hB2 := hB1.trans (hb2.mono hB1.size); clear hb2
    go_wp2_with fail
    ((with_reducible refine (HD.out _).mono ?_); rintro e w3 ⟨rfl, hb3⟩)
    have hB3 := hB2.trans (hb3.mono hB2.size); clear hb3
    go_wp2
    go_ret
    exact ⟨rfl, hB3⟩
  · rw [show rchk l = 3 by unfold rchk; rw [if_pos (.inl h1)]]
    generalize rnum l = A at *
    generalize rden l = B at *
    generalize rhas l = o at *
    clear h1 h2
    go_enter Tryz.func33, Tryz.ntmps33
    go_wp2_with fail
    ((with_reducible refine (HSp.out _).mono ?_); rintro e w1 ⟨rfl, hb1⟩)
    have hB1 := hB0.trans (hb1.mono hB0.size); clear hb1
    go_wp2_with fail
    ((with_reducible refine (HN.out _).mono ?_); rintro e w2 ⟨rfl, hb2⟩)
    have hB2 := hB1.trans (hb2.mono hB1.size); clear hb2
    go_wp2_with fail
    ((with_reducible refine (HD.out _).mono ?_); rintro e w3 ⟨rfl, hb3⟩)
    have hB3 := hB2.trans (hb3.mono hB2.size); clear hb3
    go_wp2
    go_ret
    exact ⟨rfl, hB3⟩
  · rw [show rchk l = 3 by unfold rchk; rw [if_pos (.inl h1)]]
    generalize rnum l = A at *
    generalize rden l = B at *
    generalize rhas l = o at *
    clear h1 h2
    go_enter Tryz.func33, Tryz.ntmps33
    go_wp2_with fail
    ((with_reducible refine (HSp.out _).mono ?_); rintro e w1 ⟨rfl, hb1⟩)
    have hB1 := hB0.trans (hb1.mono hB0.size); clear hb1
    go_wp2_with fail
    ((with_reducible refine (HN.out _).mono ?_); rintro e w2 ⟨rfl, hb2⟩)
    have hB2 := hB1.trans (hb2.mono hB1.size); clear hb2
    go_wp2_with fail
    ((with_reducible refine (HD.out _).mono ?_); rintro e w3 ⟨rfl, hb3⟩)
    have hB3 := hB2.trans (hb3.mono hB2.size); clear hb3
    go_wp2
    go_ret
    exact ⟨rfl, hB3⟩
  · rw [show rchk l = 3 by unfold rchk; rw [if_pos (.inr h2)]]
    generalize rnum l = A at *
    generalize rden l = B at *
    generalize rhas l = o at *
    clear h1 h2
    go_enter Tryz.func33, Tryz.ntmps33
    go_wp2_with fail
    ((with_reducible refine (HSp.out _).mono ?_); rintro e w1 ⟨rfl, hb1⟩)
    have hB1 := hB0.trans (hb1.mono hB0.size); clear hb1
    go_wp2_with fail
    ((with_reducible refine (HN.out _).mono ?_); rintro e w2 ⟨rfl, hb2⟩)
    have hB2 := hB1.trans (hb2.mono hB1.size); clear hb2
    go_wp2_with fail
    ((with_reducible refine (HD.out _).mono ?_); rintro e w3 ⟨rfl, hb3⟩)
    have hB3 := hB2.trans (hb3.mono hB2.size); clear hb3
    go_wp2
    go_ret
    exact ⟨rfl, hB3⟩
  · rw [show rchk l = 11 by unfold rchk; rw [if_neg (by omega), if_pos (by omega)]]
    generalize rnum l = A at *
    generalize rden l = B at *
    generalize rhas l = o at *
    clear h1 h2
    go_enter Tryz.func33, Tryz.ntmps33
    go_wp2_with fail
    ((with_reducible refine (HSp.out _).mono ?_); rintro e w1 ⟨rfl, hb1⟩)
    have hB1 := hB0.trans (hb1.mono hB0.size); clear hb1
    go_wp2_with fail
    ((with_reducible refine (HN.out _).mono ?_); rintro e w2 ⟨rfl, hb2⟩)
    have hB2 := hB1.trans (hb2.mono hB1.size); clear hb2
    go_wp2_with fail
    ((with_reducible refine (HD.out _).mono ?_); rintro e w3 ⟨rfl, hb3⟩)
    have hB3 := hB2.trans (hb3.mono hB2.size); clear hb3
    go_wp2
    go_ret
    exact ⟨rfl, hB3⟩
  · rw [show rchk l = 11 by unfold rchk; rw [if_neg (by omega), if_pos (by omega)]]
    generalize rnum l = A at *
    generalize rden l = B at *
    generalize rhas l = o at *
    clear h1 h2
    go_enter Tryz.func33, Tryz.ntmps33
    go_wp2_with fail
    ((with_reducible refine (HSp.out _).mono ?_); rintro e w1 ⟨rfl, hb1⟩)
    have hB1 := hB0.trans (hb1.mono hB0.size); clear hb1
    go_wp2_with fail
    ((with_reducible refine (HN.out _).mono ?_); rintro e w2 ⟨rfl, hb2⟩)
    have hB2 := hB1.trans (hb2.mono hB1.size); clear hb2
    go_wp2_with fail
    ((with_reducible refine (HD.out _).mono ?_); rintro e w3 ⟨rfl, hb3⟩)
    have hB3 := hB2.trans (hb3.mono hB2.size); clear hb3
    go_wp2
    go_ret
    exact ⟨rfl, hB3⟩
  · rw [show rchk l = 3 by unfold rchk; rw [if_pos (.inr h2)]]
    generalize rnum l = A at *
    generalize rden l = B at *
    generalize rhas l = o at *
    clear h1 h2
    go_enter Tryz.func33, Tryz.ntmps33
    go_wp2_with fail
    ((with_reducible refine (HSp.out _).mono ?_); rintro e w1 ⟨rfl, hb1⟩)
    have hB1 := hB0.trans (hb1.mono hB0.size); clear hb1
    go_wp2_with fail
    ((with_reducible refine (HN.out _).mono ?_); rintro e w2 ⟨rfl, hb2⟩)
    have hB2 := hB1.trans (hb2.mono hB1.size); clear hb2
    go_wp2_with fail
    ((with_reducible refine (HD.out _).mono ?_); rintro e w3 ⟨rfl, hb3⟩)
    have hB3 := hB2.trans (hb3.mono hB2.size); clear hb3
    go_wp2
    go_ret
    exact ⟨rfl, hB3⟩
  · rw [show rchk l = 11 by unfold rchk; rw [if_neg (by omega), if_pos (by omega)]]
    generalize rnum l = A at *
    generalize rden l = B at *
    generalize rhas l = o at *
    clear h1 h2
    go_enter Tryz.func33, Tryz.ntmps33
    go_wp2_with fail
    ((with_reducible refine (HSp.out _).mono ?_); rintro e w1 ⟨rfl, hb1⟩)
    have hB1 := hB0.trans (hb1.mono hB0.size); clear hb1
    go_wp2_with fail
    ((with_reducible refine (HN.out _).mono ?_); rintro e w2 ⟨rfl, hb2⟩)
    have hB2 := hB1.trans (hb2.mono hB1.size); clear hb2
    go_wp2_with fail
    ((with_reducible refine (HD.out _).mono ?_); rintro e w3 ⟨rfl, hb3⟩)
    have hB3 := hB2.trans (hb3.mono hB2.size); clear hb3
    go_wp2
    go_ret
    exact ⟨rfl, hB3⟩
  · obtain ⟨en, bn⟩ := ok_text h1
    obtain ⟨ed, bd⟩ := ok_text h2
    cases hs : rhas l with
    | false =>
      rw [show rchk l = 0 by unfold rchk; rw [if_neg (by omega), if_neg (by omega), if_neg (by rw [hs]; simp)]]
      rw [hs] at HSp
      generalize rnum l = A at *
      generalize rden l = B at *
      clear h1 h2 hs en ed bn bd
      go_enter Tryz.func33, Tryz.ntmps33
      go_wp2_with fail
      ((with_reducible refine (HSp.out _).mono ?_); rintro e w1 ⟨rfl, hb1⟩)
      have hB1 := hB0.trans (hb1.mono hB0.size); clear hb1
      go_wp2_with fail
      ((with_reducible refine (HN.out _).mono ?_); rintro e w2 ⟨rfl, hb2⟩)
      have hB2 := hB1.trans (hb2.mono hB1.size); clear hb2
      go_wp2_with fail
      ((with_reducible refine (HD.out _).mono ?_); rintro e w3 ⟨rfl, hb3⟩)
      have hB3 := hB2.trans (hb3.mono hB2.size); clear hb3
      go_wp2
      go_ret
      exact ⟨rfl, hB3⟩
    | true =>
      rw [hs] at HSp
      have ho := fun W => cmpI (val (rden l)) 1 W (lng_big bd) (Nat.le_trans lng_one (by omega))
      have hgc := fun W hW => gcdI (val (rnum l)) (val (rden l)) W hW (lng_big bn) (lng_big bd)
      rw [ed, itoa_one] at ho
      rw [en, ed] at hgc
      have HO := Lib.hid ho; have HC := Lib.hid hgc
      have e := show rchk l = if val (rden l) ≤ 1 ∨ Int.gcd (val (rnum l)) (val (rden l)) ≠ 1 then 3 else 0 by
        unfold rchk; rw [if_neg (by omega), if_neg (by omega)]; simp [hs]
      rw [e]
      clear e ho hgc bn bd hs h1 h2
      generalize val (rnum l) = m at *
      generalize val (rden l) = d at *
      generalize rnum l = A at *
      generalize rden l = B at *
      have h4 := itoa_is_one (n := (Int.gcd m d : Int))
      by_cases h3 : d ≤ 1
      · rw [if_pos (.inl h3)]
        have hc : cmp d 1 = -1 ∨ cmp d 1 = 0 := by have := cmp_spec d 1; omega
        clear h3
        generalize Lib.itoa (Int.gcd m d : Int) = tg at *
        clear h4
        rcases hc with hc | hc <;> rw [hc] at HO <;> clear hc
        all_goals
          go_enter Tryz.func33, Tryz.ntmps33
          go_wp2_with fail
          ((with_reducible refine (HSp.out _).mono ?_); rintro e w1 ⟨rfl, hb1⟩)
          have hB1 := hB0.trans (hb1.mono hB0.size); clear hb1
          go_wp2_with fail
          ((with_reducible refine (HN.out _).mono ?_); rintro e w2 ⟨rfl, hb2⟩)
          have hB2 := hB1.trans (hb2.mono hB1.size); clear hb2
          go_wp2_with fail
          ((with_reducible refine (HD.out _).mono ?_); rintro e w3 ⟨rfl, hb3⟩)
          have hB3 := hB2.trans (hb3.mono hB2.size); clear hb3
          go_wp2_with fail
          ((with_reducible refine (HO.out _).mono ?_); rintro e w4 ⟨rfl, hb4⟩)
          have hB4 := hB3.trans (hb4.mono hB3.size); clear hb4
          go_wp2_with fail
          ((with_reducible refine (HC.out _ (HG.out.later hB4)).mono ?_); rintro e w5 ⟨rfl, hb5⟩)
          have hB5 := hB4.trans (hb5.mono hB4.size); clear hb5
          go_wp2
          go_ret
          exact ⟨rfl, hB5⟩
      · have hc : cmp d 1 = 1 := by have := cmp_spec d 1; omega
        rw [hc] at HO
        by_cases h5 : Int.gcd m d = 1
        · rw [if_neg (by rintro (h | h); exact h3 h; exact h h5)]
          rw [decide_eq_true (by omega)] at h4
          generalize (Int.gcd m d : Int) = g at *
          generalize Lib.itoa g = tg at *
          have h6 : (tg != [49]) = false := by unfold bne; rw [h4]; rfl
          clear h3 hc h5
          go_enter Tryz.func33, Tryz.ntmps33
          go_wp2_with fail
          ((with_reducible refine (HSp.out _).mono ?_); rintro e w1 ⟨rfl, hb1⟩)
          have hB1 := hB0.trans (hb1.mono hB0.size); clear hb1
          go_wp2_with fail
          ((with_reducible refine (HN.out _).mono ?_); rintro e w2 ⟨rfl, hb2⟩)
          have hB2 := hB1.trans (hb2.mono hB1.size); clear hb2
          go_wp2_with fail
          ((with_reducible refine (HD.out _).mono ?_); rintro e w3 ⟨rfl, hb3⟩)
          have hB3 := hB2.trans (hb3.mono hB2.size); clear hb3
          go_wp2_with fail
          ((with_reducible refine (HO.out _).mono ?_); rintro e w4 ⟨rfl, hb4⟩)
          have hB4 := hB3.trans (hb4.mono hB3.size); clear hb4
          go_wp2_with fail
          ((with_reducible refine (HC.out _ (HG.out.later hB4)).mono ?_); rintro e w5 ⟨rfl, hb5⟩)
          have hB5 := hB4.trans (hb5.mono hB4.size); clear hb5
          go_wp2
          go_ret
          exact ⟨rfl, hB5⟩
        · rw [if_pos (.inr h5)]
          rw [decide_eq_false (by omega)] at h4
          generalize (Int.gcd m d : Int) = g at *
          generalize Lib.itoa g = tg at *
          have h6 : (tg != [49]) = true := by unfold bne; rw [h4]; rfl
          clear h3 hc h5
          go_enter Tryz.func33, Tryz.ntmps33
          go_wp2_with fail
          ((with_reducible refine (HSp.out _).mono ?_); rintro e w1 ⟨rfl, hb1⟩)
          have hB1 := hB0.trans (hb1.mono hB0.size); clear hb1
          go_wp2_with fail
          ((with_reducible refine (HN.out _).mono ?_); rintro e w2 ⟨rfl, hb2⟩)
          have hB2 := hB1.trans (hb2.mono hB1.size); clear hb2
          go_wp2_with fail
          ((with_reducible refine (HD.out _).mono ?_); rintro e w3 ⟨rfl, hb3⟩)
          have hB3 := hB2.trans (hb3.mono hB2.size); clear hb3
          go_wp2_with fail
          ((with_reducible refine (HO.out _).mono ?_); rintro e w4 ⟨rfl, hb4⟩)
          have hB4 := hB3.trans (hb4.mono hB3.size); clear hb4
          go_wp2_with fail
          ((with_reducible refine (HC.out _ (HG.out.later hB4)).mono ?_); rintro e w5 ⟨rfl, hb5⟩)
          have hB5 := hB4.trans (hb5.mono hB4.size); clear hb5
          go_wp2
          go_ret
          exact ⟨rfl, hB5⟩
theorem firstR_drop {ls : List Txt} {i : Nat} (h : i < ls.length) : firstR (ls.drop i) = if rchk ls[i] = 0 then firstR (ls.drop (i + 1)) else rchk ls[i] := by
  rw [List.drop_eq_getElem_cons h]; rfl
set_option maxRecDepth 100000 in
theorem checks_e (a : Option Addr) (c : Nat) (w : World) : Calls Tryz.prog 17 #[.slice a 0 c] w (Pur w (.int .i64 0)) := by
  go_enter Tryz.func17, Tryz.ntmps17
  go_wp2
  go_loop [8] (fun s => s = .int .i64 0) (fun _ => 0)
  case atStart => rfl
  case round =>
    subst hrel
    go_wp2
    go_ret
    exact ⟨rfl, rfl⟩
set_option maxRecDepth 100000 in
set_option maxHeartbeats 1000000 in
theorem checks_c {v : Value} (ls : List Txt) (w : World) (hg : Good w) (h : SlS w v ls) (hls : ls.length ≤ 140737488355328) (hlen : ∀ l ∈ ls, l.length ≤ 140737488355328) :
    Calls Tryz.prog 17 #[v] w (Ret w (.int .i64 (firstR ls))) := by
  rcases h with ⟨a, c, rfl, rfl⟩ | ⟨b, off, c, rfl, hR, hl⟩
  · exact (checks_e a c w).mono fun _ _ h => h.ret
  · have HR := Lib.hid hR; have HL := Lib.hid hlen; have HG := Lib.hid hg
    obtain ⟨n, hnn⟩ : ∃ n, ls.length = n := ⟨_, rfl⟩
    rw [hnn] at hls ⊢
    have HN := Lib.hid hnn
    clear hnn hR hlen hg
    go_enter Tryz.func17, Tryz.ntmps17
    go_wp2_with fail
    go_loopw [8] (fun si wr => ∃ i : Nat, si = .int .i64 (i : Int) ∧ i ≤ n ∧ Hid (firstR (ls.drop i) = firstR ls) ∧ Below w.heap.size w wr) (fun si _ => n - (intOf si).toNat)
    case atStart => exact ⟨0, rfl, Nat.zero_le _, rfl, Below.refl _ _⟩
    case round =>
      obtain ⟨i, rfl, hi, hE, hB⟩ := hrel
      by_cases hlt : i < n
      · have hil : i < ls.length := by rw [HN.out]; exact hlt
        have hc := (HR.out.later hB hl) i hil
        have hd := firstR_drop hil
        have hll := HL.out ls[i] (List.getElem_mem hil)
        obtain ⟨l, hle⟩ : ∃ l, ls[i] = l := ⟨_, rfl⟩
        rw [hle] at hc hd hll
        have HC := Lib.hid (qCheck_c l wr (HG.out.later hB) hll)
        by_cases h0 : rchk l = 0
        · rw [h0] at HC
          have HE := Lib.hid (show firstR (ls.drop (i + 1)) = firstR ls by rw [← hE.out, hd, if_pos h0])
          clear hle hd hll h0
          go_wp2_with fail
          ((with_reducible refine (HC.out).mono ?_); rintro e w2 ⟨rfl, hb2⟩)
          have hB2 := hB.trans (hb2.mono hB.size)
          go_wp2
          go_roundw
          case rel => exact ⟨i + 1, by go_num, by omega, HE, hB2⟩
          case measure => simp [intOf]; omega
        · have HE := Lib.hid (show firstR ls = rchk l by rw [← hE.out, hd, if_neg h0])
          have h3 := bne_ne h0
          clear hle hd hll h0
          obtain ⟨x, hx⟩ : ∃ x, rchk l = x := ⟨_, rfl⟩
          rw [hx] at HE HC h3
          clear hx
          go_wp2_with fail
          ((with_reducible refine (HC.out).mono ?_); rintro e w2 ⟨rfl, hb2⟩)
          have hB2 := hB.trans (hb2.mono hB.size)
          go_wp2
          go_ret
          rw [HE.out]
          exact ⟨rfl, hB2⟩
      · obtain rfl : i = n := by omega
        have HE := Lib.hid (show firstR ls = 0 by rw [← hE.out, ← HN.out, List.drop_length]; rfl)
        go_wp2
        go_ret
        rw [HE.out]
        exact ⟨rfl, hB⟩
end Go.Proofs.Wk
/- THE PROGRAM's RATIONAL NUMBERS: lowest terms, what is made of two numbers. -/
namespace Go.Proofs.Wk
open Go.RowKit Mt

theorem kept_quo (m n : Int) (W : World) (hG : Good W) (hm : m.natAbs < big) (hn : n.natAbs < big) (h : n ≠ 0) : Calls Tryz.prog 117 #[.string ⟨(Lib.itoa m).toArray⟩, .string ⟨(Lib.itoa n).toArray⟩] W (Ret W (ans2 (kept (m.fdiv n)))) := by
  rw [kept_lt (Nat.lt_of_le_of_lt (fdiv_le h) hm)]
  exact quoI m n W hG (lng_big hm) (lng_big hn) h
theorem gcd_big {m n : Int} (hn : n.natAbs < big) (h : n ≠ 0) : ((Int.gcd m n : Int)).natAbs < big := by
  refine Nat.lt_of_le_of_lt ?_ hn
  have h1 : Int.gcd m n ∣ n.natAbs := by rw [Int.gcd]; exact Nat.gcd_dvd_right _ _
  have := Nat.le_of_dvd (by omega) h1
  simpa using this
theorem kept_gcd (m n : Int) (W : World) (hG : Good W) (hm : m.natAbs < big) (hn : n.natAbs < big) (h : n ≠ 0) : Calls Tryz.prog 59 #[.string ⟨(Lib.itoa m).toArray⟩, .string ⟨(Lib.itoa n).toArray⟩] W (Ret W (ans2 (kept (Int.gcd m n)))) := by
  rw [kept_lt (gcd_big hn h)]
  exact gcdI m n W hG (lng_big hm) (lng_big hn)
theorem quoS (m n : Int) (g : Nat) (W : World) (hs : St W g true) (hG : GoodB g W) (hm : m.natAbs < big) (hn : n.natAbs < big) (h : n ≠ 0) :
    Calls Tryz.prog 35 #[.pointer (some ⟨g, 0, none⟩), .func (.func 117) #[] #[], .string ⟨(Lib.itoa m).toArray⟩, .string ⟨(Lib.itoa n).toArray⟩] W (Sts W g true (.string ⟨(Lib.itoa (m.fdiv n)).toArray⟩)) := by
  have := doQuo (.string ⟨(Lib.itoa m).toArray⟩) (.string ⟨(Lib.itoa n).toArray⟩) (m.fdiv n) g true W hs (fun _ => kept_quo m n W hG.g hm hn h)
  rwa [dk_ok (Nat.lt_of_le_of_lt (fdiv_le h) hm)] at this
theorem gcdS (m n : Int) (g : Nat) (W : World) (hs : St W g true) (hG : GoodB g W) (hm : m.natAbs < big) (hn : n.natAbs < big) (h : n ≠ 0) :
    Calls Tryz.prog 35 #[.pointer (some ⟨g, 0, none⟩), .func (.func 59) #[] #[], .string ⟨(Lib.itoa m).toArray⟩, .string ⟨(Lib.itoa n).toArray⟩] W (Sts W g true (.string ⟨(Lib.itoa (Int.gcd m n)).toArray⟩)) := by
  have := doGcd (.string ⟨(Lib.itoa m).toArray⟩) (.string ⟨(Lib.itoa n).toArray⟩) (Int.gcd m n) g true W hs (fun _ => kept_gcd m n W hG.g hm hn h)
  rwa [dk_ok (gcd_big hn h)] at this
theorem pre_itoa (n : Int) : List.isPrefixOf [45] (Lib.itoa n) = decide (n < 0) := by
  have := neg_itoa n
  rw [← this]
  cases Lib.itoa n with
  | nil => rfl
  | cons c t => unfold neg; simp [List.isPrefixOf]; rw [Bool.eq_iff_iff, beq_iff_eq, beq_iff_eq]; exact eq_comm
/-- The state after a call in block g, in one fact. -/
structure Sv (w0 : World) (g : Nat) (s : Bool) (w : World) : Prop where
  st : St w g s
  gr : w0.grownBy w (some g)
  gd : GoodB g w
theorem Sv.step {w0 w w' : World} {g : Nat} {s t : Bool} (h : Sv w0 g s w) (h1 : St w' g t) (h2 : w.grownBy w' (some g)) : Sv w0 g t w' := ⟨h1, gb_trans h.gr h2, h.gd.kept h2⟩
theorem Sv.later {w0 w w' : World} {g : Nat} {s : Bool} (h : Sv w0 g s w) (hb : Below w.heap.size w w') : Sv w0 g s w' := ⟨h.st.later hb h.st.lt, gb_trans h.gr (grown_of_below hb), h.gd.later hb⟩
set_option maxRecDepth 100000 in
set_option maxHeartbeats 2000000 in
theorem lowest_c (m n : Int) (g : Nat) (w : World) (hs : St w g true) (hG : GoodB g w) (hm : m.natAbs < big) (hn : n.natAbs < big) (h0 : n ≠ 0) :
    Calls Tryz.prog 85 #[.pointer (some ⟨g, 0, none⟩), .string ⟨(Lib.itoa m).toArray⟩, .string ⟨(Lib.itoa n).toArray⟩] w (Sts w g true (.string ⟨(rtoa (Rat.divInt m n)).toArray⟩)) := by
  have S0 : Sv w g true w := ⟨hs, gb_refl _ _, hG⟩
  obtain ⟨g0, e1, e2⟩ := low_spec (m := m) h0
  have hgb : (lowG m n).natAbs < big := by
    have := gcd_big (m := m) hn h0
    unfold lowG; split
    · rw [Int.natAbs_neg]; exact this
    · exact this
  have H1 := Lib.hid (fun W (S : Sv w g true W) => gcdS m n g W S.st S.gd hm hn h0)
  have H2 := Lib.hid (fun W (S : Sv w g true W) => quoS m (lowG m n) g W S.st S.gd hm hgb g0)
  have H3 := Lib.hid (fun W (S : Sv w g true W) => quoS n (lowG m n) g W S.st S.gd hn hgb g0)
  have hx : (m.fdiv (lowG m n)).natAbs < big := Nat.lt_of_le_of_lt (fdiv_le g0) hm
  have hy : (n.fdiv (lowG m n)).natAbs < big := Nat.lt_of_le_of_lt (fdiv_le g0) hn
  have H4 := Lib.hid (fun W => joined_c (m.fdiv (lowG m n)) (n.fdiv (lowG m n)) W (by have := lng_big hx; omega) (by have := lng_big hy; omega))
  have hp := fun W => Tryz.strings_HasPrefix ⟨(Lib.itoa n).toArray⟩ ⟨#[45]⟩ W
  rw [show Lib.hasPrefix (⟨(Lib.itoa n).toArray⟩ : ByteArray).data.toList (⟨#[45]⟩ : ByteArray).data.toList = decide (n < 0) from pre_itoa n] at hp
  have h5 := fun W (S : Sv w g true W) => sub_c 0 (Int.gcd m n) g true W S.st S.gd (by have := one_lt_big'; simp; omega) (gcd_big hn h0)
  rw [itoa_zero, Int.zero_sub, dk_ok (by rw [Int.natAbs_neg]; exact gcd_big hn h0)] at h5
  rw [← ljoin h0] at H4
  have H5 := Lib.hid h5
  clear h5 e1 e2 hgb hx hy hm hn hs hG
  by_cases hneg : n < 0
  · rw [decide_eq_true hneg] at hp
    have HP := Lib.hid hp
    rw [show lowG m n = -(Int.gcd m n : Int) by unfold lowG; rw [if_pos hneg]] at H2 H3 H4
    clear hp hneg h0 g0
    generalize rtoa (Rat.divInt m n) = tr at *
    generalize (Int.gcd m n : Int) = gc at *
    generalize Lib.itoa (m.fdiv (-gc)) = tx at *
    generalize Lib.itoa (n.fdiv (-gc)) = ty at *
    generalize Lib.itoa (-gc) = tg2 at *
    generalize Lib.itoa gc = tg at *
    generalize Lib.itoa m = tm at *
    generalize Lib.itoa n = tn at *
    go_enter Tryz.func85, Tryz.ntmps85
    go_wp2_with fail
    ((with_reducible refine (H1.out _ S0).mono ?_); rintro e w1 ⟨rfl, s1, g1⟩)
    have S1 := S0.step s1 g1
    clear s1 g1
    go_wp2_with fail
    ((with_reducible refine (HP.out _).mono ?_); rintro e w' ⟨rfl, rfl⟩)
    go_wp2_with fail
    ((with_reducible refine (H5.out _ S1).mono ?_); rintro e w2 ⟨rfl, s1, g1⟩)
    have S2 := S1.step s1 g1
    clear s1 g1
    have c0 := S2.st.c0
    rw [show ecode true = 0 from rfl] at c0
    go_wp2_with fail
    ((with_reducible refine (H2.out _ S2).mono ?_); rintro e w3 ⟨rfl, s1, g1⟩)
    have S3 := S2.step s1 g1
    clear s1 g1 c0
    go_wp2_with fail
    ((with_reducible refine (H3.out _ S3).mono ?_); rintro e w4 ⟨rfl, s1, g1⟩)
    have S4 := S3.step s1 g1
    clear s1 g1
    go_wp2_with fail
    ((with_reducible refine (H4.out _).mono ?_); rintro e w' ⟨rfl, rfl⟩)
    go_wp2
    go_ret
    exact ⟨rfl, S4.st, S4.gr⟩
  · rw [decide_eq_false hneg] at hp
    have HP := Lib.hid hp
    rw [show lowG m n = (Int.gcd m n : Int) by unfold lowG; rw [if_neg hneg]] at H2 H3 H4
    clear hp hneg h0 g0
    generalize rtoa (Rat.divInt m n) = tr at *
    generalize (Int.gcd m n : Int) = gc at *
    generalize Lib.itoa (m.fdiv gc) = tx at *
    generalize Lib.itoa (n.fdiv gc) = ty at *
    generalize Lib.itoa gc = tg at *
    generalize Lib.itoa m = tm at *
    generalize Lib.itoa n = tn at *
    go_enter Tryz.func85, Tryz.ntmps85
    go_wp2_with fail
    ((with_reducible refine (H1.out _ S0).mono ?_); rintro e w1 ⟨rfl, s1, g1⟩)
    have S1 := S0.step s1 g1
    clear s1 g1
    go_wp2_with fail
    ((with_reducible refine (HP.out _).mono ?_); rintro e w' ⟨rfl, rfl⟩)
    have S2 := S1
    have c0 := S2.st.c0
    rw [show ecode true = 0 from rfl] at c0
    go_wp2_with fail
    ((with_reducible refine (H2.out _ S2).mono ?_); rintro e w3 ⟨rfl, s1, g1⟩)
    have S3 := S2.step s1 g1
    clear s1 g1 c0
    go_wp2_with fail
    ((with_reducible refine (H3.out _ S3).mono ?_); rintro e w4 ⟨rfl, s1, g1⟩)
    have S4 := S3.step s1 g1
    clear s1 g1
    go_wp2_with fail
    ((with_reducible refine (H4.out _).mono ?_); rintro e w' ⟨rfl, rfl⟩)
    go_wp2
    go_ret
    exact ⟨rfl, S4.st, S4.gr⟩
end Go.Proofs.Wk
