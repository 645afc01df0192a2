/- THE REFERENCE's WHOLE NUMBERS: the greatest common divisor; results or errors of texts. -/
import Derived.Test.YtjljappilpkelaaGreatDoorRefG
import Derived.Test.YtjljappilpkelaaGreatDoorWhQ
namespace Go.Proofs.Wk
open Go.RowKit Mt

theorem nat_divmod (A B : Nat) (h : B ≠ 0) : (A : Int).fdiv (B : Int) = ((A / B : Nat) : Int) ∧ (A : Int).fmod (B : Int) = ((A % B : Nat) : Int) := by
  have := fl_same (sx := false) (sy := false) (X := A) (Y := B) h (.inr rfl)
  simpa [sg] using this

set_option maxRecDepth 100000 in
set_option maxHeartbeats 2000000 in
theorem Shared_c (m n : Int) (w : World) (hm : lng m ≤ 4000) (hn : lng n ≤ 4000) : Calls Tryz.prog 52 #[.string ⟨(Lib.itoa m).toArray⟩, .string ⟨(Lib.itoa n).toArray⟩] w (Ret w (.string ⟨(Lib.itoa (Int.gcd m n)).toArray⟩)) := by
  have HSM := Lib.hid (fun W => size_i m W)
  have HSN := Lib.hid (fun W => size_i n W)
  have hm' : (Lib.decDigits m.natAbs).length ≤ 30000 := by unfold lng at hm; omega
  have hn' : (Lib.decDigits n.natAbs).length ≤ 30000 := by unfold lng at hn; omega
  have HFM := Lib.hid (fun W => show Calls Tryz.prog 72 #[.string ⟨(Lib.decDigits m.natAbs).toArray⟩, .bool false] W (Pur W (.string ⟨(Lib.itoa ((m.natAbs : Nat) : Int)).toArray⟩)) from signed_c m.natAbs false W hm')
  have HFN := Lib.hid (fun W => show Calls Tryz.prog 72 #[.string ⟨(Lib.decDigits n.natAbs).toArray⟩, .bool false] W (Pur W (.string ⟨(Lib.itoa ((n.natAbs : Nat) : Int)).toArray⟩)) from signed_c n.natAbs false W hn')
  rw [gcd_int]
  have lm : lng ((m.natAbs : Nat) : Int) ≤ 4000 := Nat.le_trans (lng_mono (by simp)) hm
  have ln : lng ((n.natAbs : Nat) : Int) ≤ 4000 := Nat.le_trans (lng_mono (by simp)) hn
  obtain ⟨X, hX⟩ : ∃ X, m.natAbs = X := ⟨_, rfl⟩
  obtain ⟨Y, hY⟩ : ∃ Y, n.natAbs = Y := ⟨_, rfl⟩
  rw [hX] at HSM HFM lm ⊢
  rw [hY] at HSN HFN ln ⊢
  obtain ⟨G, hG⟩ : ∃ G, Nat.gcd X Y = G := ⟨_, rfl⟩
  rw [hG]
  have HGG := Lib.hid hG; have LM := Lib.hid lm; have LN := Lib.hid ln
  clear hG hX hY hm hn hm' hn' lm ln
  go_enter Tryz.func52, Tryz.ntmps52
  go_wp2_with fail
  ((with_reducible refine (HSM.out _).mono ?_); rintro e w' ⟨rfl, rfl⟩)
  go_wp2_with fail
  ((with_reducible refine (HFM.out _).mono ?_); rintro e w' ⟨rfl, rfl⟩)
  go_wp2_with fail
  ((with_reducible refine (HSN.out _).mono ?_); rintro e w' ⟨rfl, rfl⟩)
  go_wp2_with fail
  ((with_reducible refine (HFN.out _).mono ?_); rintro e w' ⟨rfl, rfl⟩)
  go_wp2_with fail
  go_loopg [0, 1] Y (fun k pa pb wr => ∃ A : Nat, pa = .string ⟨(Lib.itoa (A : Int)).toArray⟩ ∧ pb = .string ⟨(Lib.itoa (k : Int)).toArray⟩ ∧ Hid (Nat.gcd A k = G) ∧ Hid (lng (A : Int) ≤ 4000) ∧ Hid (lng (k : Int) ≤ 4000) ∧ Below w.heap.size w wr)
  case atStart => exact ⟨X, rfl, rfl, HGG, LM, LN, Below.refl _ _⟩
  case round =>
    clear HSM HSN HFM HFN HGG LM LN
    obtain ⟨A, rfl, rfl, hG, hA, hK, hB⟩ := hrel
    by_cases hk : gk = 0
    · subst hk
      rw [show ((0 : Nat) : Int) = 0 from rfl, itoa_zero]
      have hAG : A = G := by rw [← hG.out, Nat.gcd_zero_right]
      have HAG := Lib.hid hAG
      clear hAG
      go_wp2
      go_ret
      exact ⟨by rw [HAG.out]; rfl, hB⟩
    · have hk48 := itoa_n48 (n := (gk : Int)) (by omega)
      have HK := Lib.hid hk
      by_cases hb : lng (A : Int) ≤ 18 ∧ lng (gk : Int) ≤ 18
      · have HB := Lib.hid (fun W => brief_yes (A : Int) (gk : Int) W hb.1 hb.2)
        have a18 := (lng18 _).1 hb.1
        have k18 := (lng18 _).1 hb.2
        have hA18 : A < 1000000000000000000 := by simpa using a18
        have hk18 : gk < 1000000000000000000 := by simpa using k18
        have HA18 := Lib.hid hA18; have HK18 := Lib.hid hk18
        clear hb a18 k18 hA18 hk18 hk
        generalize Lib.itoa (A : Int) = ta at *
        generalize Lib.itoa (gk : Int) = tk at *
        go_wp2_with fail
        ((with_reducible refine (HB.out _).mono ?_); rintro e w' ⟨rfl, rfl⟩)
        go_wp2_with fail
        obtain ⟨wo, rfl⟩ : ∃ wo : World, wo = wr := ⟨_, rfl⟩
        go_loopw [5, 6] (fun p q wr => ∃ (x y : Nat), p = .int .i64 (x : Int) ∧ q = .int .i64 (y : Int) ∧ Hid (x < 1000000000000000000) ∧ Hid (y < 1000000000000000000) ∧ Hid (Nat.gcd x y = G) ∧ Below w.heap.size w wr) (fun _ q _ => (intOf q).toNat)
        case atStart => exact ⟨A, gk, rfl, rfl, HA18, HK18, hG, hB⟩
        case round =>
          clear HA18 HK18 hG hB HB
          obtain ⟨x, y, rfl, rfl, hx, hy, hG, hB⟩ := hrel
          by_cases hy0 : y = 0
          · subst hy0
            have hxG : x = G := by rw [← hG.out, Nat.gcd_zero_right]
            have HAG := Lib.hid hxG
            have HO := Lib.hid (fun W => Of_c (x : Int) W (by omega) (by have := hx.out; omega))
            clear hxG
            go_wp2_with fail
            refine (HO.out _).mono ?_; rintro e w5 ⟨rfl, hb5⟩
            have hB5 := hB.trans (hb5.mono hB.size)
            go_wp2
            go_ret
            exact ⟨by rw [HAG.out]; rfl, hB5⟩
          · have hyp : 0 < y := by omega
            have hst := gcd_step x y
            have hlt := Nat.mod_lt x hyp
            have HST := Lib.hid hst; have HLT := Lib.hid hlt
            clear hst hlt
            go_wp2_with fail
            go_quiet (fail)
            go_wp2_with fail
            go_roundw
            case rel => exact ⟨y, x % y, rfl, by go_num, hy, by have := HLT.out; have := hy.out; show _ < _; omega, by show _ = _; rw [HST.out]; exact hG.out, below_drewN hB _⟩
            case measure => have := HLT.out; simp [intOf]; omega
      · have HN := Lib.hid (fun W => brief_no (A : Int) (gk : Int) W hb)
        have HP := Lib.hid (fun W => Parted_c (A : Int) (gk : Int) W hA.out hK.out (by omega))
        rw [(nat_divmod A gk hk).2] at HP
        have hst := gcd_step A gk
        have hmod := Nat.mod_lt A (Nat.pos_of_ne_zero hk)
        have hln : lng ((A % gk : Nat) : Int) ≤ 4000 := Nat.le_trans (lng_mono (n := (gk : Int)) (by simp; omega)) hK.out
        have HST := Lib.hid hst; have HMOD := Lib.hid hmod; have HLN := Lib.hid hln
        clear hst hmod hln hb hk
        go_wp2_with fail
        ((with_reducible refine (HN.out _).mono ?_); rintro e w' ⟨rfl, rfl⟩)
        go_wp2_with fail
        refine (HP.out _).mono ?_; rintro e w5 ⟨rfl, hb5⟩
        have hB5 := hB.trans (hb5.mono hB.size)
        go_wp2_with fail
        go_roundg (A % gk)
        case measure => exact HMOD.out
        case rel => exact ⟨gk, rfl, rfl, by show _ = _; rw [HST.out]; exact hG.out, hK, HLN, hB5⟩

def fewB (a : Txt) : Bool := decide (a.length ≤ 50) || (decide (a.length ≤ 2048) && (chk a == 3))
set_option maxRecDepth 100000 in
theorem Few_c (a : Txt) (w : World) (ha : a.length ≤ 140737488355328) : Calls Tryz.prog 8 #[.string ⟨a.toArray⟩] w (Pur w (.bool (fewB a))) := by
  by_cases h1 : a.length ≤ 50
  · have h1' : (a.length : Int) ≤ 50 := by omega
    rw [show fewB a = true by unfold fewB; rw [decide_eq_true h1]; rfl]
    go_enter Tryz.func8, Tryz.ntmps8
    go_wp2
    go_ret
    exact ⟨rfl, rfl⟩
  · have h1' : ¬ (a.length : Int) ≤ 50 := by omega
    by_cases h2 : a.length ≤ 2048
    · have h2' : (a.length : Int) ≤ 2048 := by omega
      have HC := Lib.hid (fun W => Check_c a W ha)
      rw [show fewB a = (chk a == 3) by unfold fewB; rw [decide_eq_false h1, decide_eq_true h2]; rfl]
      generalize chk a = x at *
      clear h1 h2
      go_enter Tryz.func8, Tryz.ntmps8
      go_wp2_with fail
      ((with_reducible refine (HC.out _).mono ?_); rintro e w' ⟨rfl, rfl⟩)
      go_wp2
      go_ret
      exact ⟨rfl, rfl⟩
    · have h2' : ¬ (a.length : Int) ≤ 2048 := by omega
      rw [show fewB a = false by unfold fewB; rw [decide_eq_false h1, decide_eq_false h2]; rfl]
      clear h1 h2
      go_enter Tryz.func8, Tryz.ntmps8
      go_wp2
      go_ret
      exact ⟨rfl, rfl⟩
set_option maxRecDepth 100000 in
theorem rCompare_c (a b : List UInt8) (w : World) (ha : a.length ≤ 140737488355328) (hb : b.length ≤ 140737488355328) : Calls Tryz.prog 27 #[.string ⟨a.toArray⟩, .string ⟨b.toArray⟩] w (Ret w (int2 (bin2i (fun m n => (cmp m n, 0)) a b))) := by
  revert ha hb
  refine bin_cases (P := fun a b => a.length ≤ 140737488355328 → b.length ≤ 140737488355328 → Calls Tryz.prog 27 #[.string ⟨a.toArray⟩, .string ⟨b.toArray⟩] w (Ret w (int2 (bin2i (fun m n => (cmp m n, 0)) a b)))) a b ?_ ?_
  · intro h ha hb
    have HB := Lib.hid (fun W => both_c a b W ha hb)
    rw [show bin2i (fun m n => (cmp m n, 0)) a b = (0, both a b) by unfold bin2i; rw [if_neg h]]
    generalize both a b = x at *
    have h2 := bne_ne h
    go_enter Tryz.func27, Tryz.ntmps27
    go_wp2_with fail
    ((with_reducible refine (HB.out _).mono ?_); rintro e w' ⟨rfl, rfl⟩)
    go_wp2
    go_ret2
    exact ⟨rfl, Below.refl _ _⟩
  · intro m n hm hn ha hb
    have HB := Lib.hid (fun W => both_c (Lib.itoa m) (Lib.itoa n) W ha hb)
    rw [both_ok hm hn] at HB
    rw [bin2i_itoa _ hm hn]
    have HO := Lib.hid (fun W => Order_c m n W (by have := lng_big hm; omega) (by have := lng_big hn; omega))
    have hB0 := Below.refl w.heap.size w
    clear hm hn ha hb
    go_enter Tryz.func27, Tryz.ntmps27
    go_wp2_with fail
    ((with_reducible refine (HB.out _).mono ?_); rintro e w' ⟨rfl, rfl⟩)
    go_wp2_with fail
    ((with_reducible refine (HO.out _).mono ?_); rintro e w1 ⟨rfl, hb1⟩)
    have hB1 := hB0.trans (hb1.mono hB0.size); clear hb1
    go_wp2
    go_ret2
    exact ⟨rfl, hB1⟩
set_option maxRecDepth 100000 in
theorem rNeg_c (a : List UInt8) (w : World) (ha : a.length ≤ 140737488355328) : Calls Tryz.prog 37 #[.string ⟨a.toArray⟩] w (Ret w (ans2 (un1 (fun m => (Lib.itoa (-m), 0)) a))) := by
  revert ha
  refine un_cases (P := fun a => a.length ≤ 140737488355328 → Calls Tryz.prog 37 #[.string ⟨a.toArray⟩] w (Ret w (ans2 (un1 (fun m => (Lib.itoa (-m), 0)) a)))) a ?_ ?_
  · intro h ha
    have HC := Lib.hid (fun W => Check_c a W ha)
    rw [show un1 (fun m => (Lib.itoa (-m), 0)) a = ([], chk a) by unfold un1; rw [if_neg h]]
    generalize chk a = x at *
    have h2 := bne_ne h
    go_enter Tryz.func37, Tryz.ntmps37
    go_wp2_with fail
    ((with_reducible refine (HC.out _).mono ?_); rintro e w' ⟨rfl, rfl⟩)
    go_wp2
    go_ret2
    exact ⟨rfl, Below.refl _ _⟩
  · intro m hm ha
    have HC := Lib.hid (fun W => Check_c (Lib.itoa m) W ha)
    rw [chk_ok hm] at HC
    rw [un1_itoa _ hm]
    have HT := Lib.hid (fun W => Turned_c m W (by have := lng_big hm; unfold lng at this; omega))
    clear hm ha
    go_enter Tryz.func37, Tryz.ntmps37
    go_wp2_with fail
    ((with_reducible refine (HC.out _).mono ?_); rintro e w' ⟨rfl, rfl⟩)
    go_wp2_with fail
    ((with_reducible refine (HT.out _).mono ?_); rintro e w' ⟨rfl, rfl⟩)
    go_wp2
    go_ret2
    exact ⟨rfl, Below.refl _ _⟩
set_option maxRecDepth 100000 in
theorem rDivide_c (a b : List UInt8) (w : World) (ha : a.length ≤ 140737488355328) (hb : b.length ≤ 140737488355328) : Calls Tryz.prog 14 #[.string ⟨a.toArray⟩, .string ⟨b.toArray⟩] w (Ret w (ans3 (bin3 prt a b))) := by
  revert ha hb
  refine bin_cases (P := fun a b => a.length ≤ 140737488355328 → b.length ≤ 140737488355328 → Calls Tryz.prog 14 #[.string ⟨a.toArray⟩, .string ⟨b.toArray⟩] w (Ret w (ans3 (bin3 prt a b)))) a b ?_ ?_
  · intro h ha hb
    have HB := Lib.hid (fun W => both_c a b W ha hb)
    rw [show bin3 prt a b = ([], [], both a b) by unfold bin3; rw [if_neg h]]
    generalize both a b = x at *
    have h2 := bne_ne h
    go_enter Tryz.func14, Tryz.ntmps14
    go_wp2_with fail
    ((with_reducible refine (HB.out _).mono ?_); rintro e w' ⟨rfl, rfl⟩)
    go_wp2
    go_ret3
    exact ⟨rfl, Below.refl _ _⟩
  · intro m n hm hn ha hb
    have HB := Lib.hid (fun W => both_c (Lib.itoa m) (Lib.itoa n) W ha hb)
    rw [both_ok hm hn] at HB
    rw [bin3_itoa _ hm hn]
    by_cases h0 : n = 0
    · subst h0
      rw [show prt m 0 = ([], [], 10) from rfl]
      rw [itoa_zero] at HB ⊢
      clear ha hb hm hn
      go_enter Tryz.func14, Tryz.ntmps14
      go_wp2_with fail
      ((with_reducible refine (HB.out _).mono ?_); rintro e w' ⟨rfl, rfl⟩)
      go_wp2
      go_ret3
      exact ⟨rfl, Below.refl _ _⟩
    · have HP := Lib.hid (fun W => Parted_c m n W (by have := lng_big hm; omega) (by have := lng_big hn; omega) h0)
      have h48 := itoa_n48 h0
      have hB0 := Below.refl w.heap.size w
      rw [show prt m n = (Lib.itoa (m.fdiv n), Lib.itoa (m.fmod n), 0) by unfold prt; rw [if_neg h0]]
      clear ha hb hm hn h0
      go_enter Tryz.func14, Tryz.ntmps14
      go_wp2_with fail
      ((with_reducible refine (HB.out _).mono ?_); rintro e w' ⟨rfl, rfl⟩)
      go_wp2_with fail
      ((with_reducible refine (HP.out _).mono ?_); rintro e w1 ⟨rfl, hb1⟩)
      have hB1 := hB0.trans (hb1.mono hB0.size); clear hb1
      go_wp2
      go_ret3
      exact ⟨rfl, hB1⟩
set_option maxRecDepth 100000 in
theorem rGcd_c (a b : List UInt8) (w : World) (ha : a.length ≤ 140737488355328) (hb : b.length ≤ 140737488355328) : Calls Tryz.prog 16 #[.string ⟨a.toArray⟩, .string ⟨b.toArray⟩] w (Ret w (ans2 (bin2 gcd2 a b))) := by
  revert ha hb
  refine bin_cases (P := fun a b => a.length ≤ 140737488355328 → b.length ≤ 140737488355328 → Calls Tryz.prog 16 #[.string ⟨a.toArray⟩, .string ⟨b.toArray⟩] w (Ret w (ans2 (bin2 gcd2 a b)))) a b ?_ ?_
  · intro h ha hb
    have HB := Lib.hid (fun W => both_c a b W ha hb)
    rw [show bin2 gcd2 a b = ([], both a b) by unfold bin2; rw [if_neg h]]
    generalize both a b = x at *
    have h2 := bne_ne h
    go_enter Tryz.func16, Tryz.ntmps16
    go_wp2_with fail
    ((with_reducible refine (HB.out _).mono ?_); rintro e w' ⟨rfl, rfl⟩)
    go_wp2
    go_ret2
    exact ⟨rfl, Below.refl _ _⟩
  · intro m n hm hn ha hb
    have HB := Lib.hid (fun W => both_c (Lib.itoa m) (Lib.itoa n) W ha hb)
    rw [both_ok hm hn] at HB
    rw [bin2_itoa _ hm hn]
    have HO := Lib.hid (fun W => Shared_c m n W (by have := lng_big hm; omega) (by have := lng_big hn; omega))
    have hB0 := Below.refl w.heap.size w
    unfold gcd2
    clear hm hn ha hb
    go_enter Tryz.func16, Tryz.ntmps16
    go_wp2_with fail
    ((with_reducible refine (HB.out _).mono ?_); rintro e w' ⟨rfl, rfl⟩)
    go_wp2_with fail
    ((with_reducible refine (HO.out _).mono ?_); rintro e w1 ⟨rfl, hb1⟩)
    have hB1 := hB0.trans (hb1.mono hB0.size); clear hb1
    go_wp2
    go_ret2
    exact ⟨rfl, hB1⟩
end Go.Proofs.Wk
