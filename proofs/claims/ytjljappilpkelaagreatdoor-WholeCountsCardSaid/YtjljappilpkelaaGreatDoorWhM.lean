/- THE PROGRAM's ARITHMETIC: Add, Sub, Neg, Mul. -/
import Derived.Test.YtjljappilpkelaaGreatDoorWhL
namespace Go.Proofs.Wk
open Go.RowKit Mt

theorem alloc_lt (w : World) (o : Obj) : w.heap.size < (w.alloc o).heap.size := by
  show _ < (w.heap.push o).size
  rw [Array.size_push]; omega
theorem allz (a b : List UInt8) (w : World) (ha : a.length ≤ 140737488355328) (hb : b.length ≤ 140737488355328) (t : TypeId) :
    Calls Tryz.prog 39 #[.slice (some ⟨w.heap.size, 0, none⟩) 2 2] (w.alloc (.cells #[.string ⟨a.toArray⟩, .string ⟨b.toArray⟩] t)) (fun e w' => e = .returned (.int .i64 (both a b)) ∧ Below w.heap.size w w') := by
  have := all_c w.heap.size 0 2 [a, b] (w.alloc (.cells #[.string ⟨a.toArray⟩, .string ⟨b.toArray⟩] t)) (by simp) (by simp [ha, hb]) (RS.two w a b t) (alloc_lt w _)
  rw [firstErr_two] at this
  refine this.mono ?_
  rintro e w' ⟨rfl, hb1⟩
  exact ⟨rfl, ((Below.refl _ _).alloc (Nat.le_refl _) _).trans (hb1.mono (Nat.le_of_lt (alloc_lt w _)))⟩
theorem kept_small {n : Int} (h0 : -2000000000000000000 ≤ n) (h1 : n ≤ 2000000000000000000) : kept n = (Lib.itoa n, 0) := by
  unfold kept
  have : lng n ≤ 1024 := by
    have h2 := (lng_le n (k := 19) (by omega)).2 (by omega)
    omega
  rw [if_pos (lng_big_iff.1 this)]
theorem small_bd {n : Int} (h : (Lib.itoa n).length ≤ 9) : -1000000000 < n ∧ n < 1000000000 := by
  have h1 := lng_itoa_lo n
  have h2 := (lng_le n (k := 9) (by omega)).1 (by omega)
  rw [ten9] at h2
  omega

theorem bin2_itoa (f : Int → Int → Txt × Int) {m n : Int} (hm : m.natAbs < big) (hn : n.natAbs < big) : bin2 f (Lib.itoa m) (Lib.itoa n) = f m n := by
  have h : both (Lib.itoa m) (Lib.itoa n) = 0 := both_zero.2 ⟨by rw [chk_itoa, if_pos hm], by rw [chk_itoa, if_pos hn]⟩
  unfold bin2
  rw [if_pos h, val_itoa, val_itoa]
theorem lng_txt {n : Int} (h : n.natAbs < big) : (Lib.itoa n).length ≤ 140737488355328 := by
  have h1 := lng_big h
  have h2 := lng_itoa n
  omega
theorem mul_room {m n : Int} (hm : m.natAbs < big) (hn : n.natAbs < big) : m.natAbs * n.natAbs < wmax := by
  have h1 := big_words hm
  have h2 := big_words hn
  refine max_pow (k := 228) ?_ (by omega)
  have h3 : (1000000000 : Nat) ^ 228 = 1000000000 ^ 114 * 1000000000 ^ 114 := by rw [← Nat.pow_add]
  rw [h3]
  exact Nat.mul_lt_mul_of_lt_of_lt h1 h2
theorem mul_bd {m n : Int} (hm : -1000000000 < m ∧ m < 1000000000) (hn : -1000000000 < n ∧ n < 1000000000) : -1000000000000000000 ≤ m * n ∧ m * n ≤ 1000000000000000000 := by
  have h : (m * n).natAbs ≤ 1000000000 * 1000000000 := by
    rw [Int.natAbs_mul]; exact Nat.mul_le_mul (by omega) (by omega)
  omega

set_option maxRecDepth 100000 in
set_option maxHeartbeats 2000000 in
theorem wAdd_c (a b : List UInt8) (w : World) (hg : Good w) (ha : a.length ≤ 140737488355328) (hb : b.length ≤ 140737488355328) : Calls Tryz.prog 32 #[.string ⟨a.toArray⟩, .string ⟨b.toArray⟩] w (Ret w (ans2 (bin2 (fun m n => kept (m + n)) a b))) := by
  have HB := Lib.hid (fun t => allz a b w ha hb t)
  have HG := Lib.hid hg
  clear hg
  by_cases h : both a b = 0
  · rw [show bin2 (fun m n => kept (m + n)) a b = (fun m n => kept (m + n)) (val a) (val b) by unfold bin2; rw [if_pos h]]
    obtain ⟨ea, la⟩ := ok_text (both_zero.1 h).1
    obtain ⟨eb, lb⟩ := ok_text (both_zero.1 h).2
    rw [h] at HB
    rw [← ea, ← eb] at HB
    rw [show (Calls Tryz.prog 32 #[.string ⟨a.toArray⟩, .string ⟨b.toArray⟩] w) = (Calls Tryz.prog 32 #[.string ⟨(Lib.itoa (val a)).toArray⟩, .string ⟨(Lib.itoa (val b)).toArray⟩] w) by rw [ea, eb]]
    clear h ha hb ea eb
    generalize val a = m at *
    generalize val b = n at *
    have LA := Lib.hid la; have LB := Lib.hid lb
    clear la lb
    by_cases hs : (Lib.itoa m).length ≤ 9 ∧ (Lib.itoa n).length ≤ 9
    · have hsy := Lib.hid (fun W => small_yes m n W hs.1 hs.2)
      obtain ⟨m0, m1⟩ := small_bd hs.1
      obtain ⟨n0, n1⟩ := small_bd hs.2
      rw [show (fun m n => kept (m + n)) m n = (Lib.itoa (m + n), 0) from kept_small (by omega) (by omega)]
      clear hs
      go_enter Tryz.func32, Tryz.ntmps32
      go_wp2_with fail
      refine (HB.out _).mono ?_; rintro e w1 ⟨rfl, hb1⟩
      go_wp2_with fail
      refine (hsy.out _).mono ?_; rintro e w2 ⟨rfl, hb2⟩
      have hB2 := hb1.trans (hb2.mono hb1.size)
      go_wp2_with fail
      refine (result_c (m + n) _ (HG.out.later hB2) (by omega) (by omega)).mono ?_; rintro e w3 ⟨rfl, hb3⟩
      go_wp2
      go_ret2
      exact ⟨rfl, hB2.trans (hb3.mono hB2.size)⟩
    · have hsn := Lib.hid (fun W => small_no (Lib.itoa m) (Lib.itoa n) W hs)
      clear hs
      go_enter Tryz.func32, Tryz.ntmps32
      go_wp2_with fail
      refine (HB.out _).mono ?_; rintro e w1 ⟨rfl, hb1⟩
      go_wp2_with fail
      refine (hsn.out _).mono ?_; rintro e w2 ⟨rfl, rfl⟩
      go_wp2_with fail
      have hsm := fun t => sum_c w1.heap.size 0 2 [m, n] (w1.alloc (.cells #[.string ⟨(Lib.itoa m).toArray⟩, .string ⟨(Lib.itoa n).toArray⟩] t)) (by simp) (by simp [LA.out, LB.out]) (RS.two w1 _ _ t) (alloc_lt w1 _) ((HG.out.later hb1).later ((Below.refl _ _).alloc (Nat.le_refl _) _))
      rw [show ([m, n] : List Int).sum = m + n by simp] at hsm
      refine (hsm _).mono ?_; rintro e w3 ⟨rfl, hb3⟩
      go_wp2
      go_ret2
      exact ⟨rfl, hb1.trans ((((Below.refl _ _).alloc (Nat.le_refl _) _).trans (hb3.mono (Nat.le_of_lt (alloc_lt w1 _)))).mono hb1.size)⟩
  · rw [show bin2 (fun m n => kept (m + n)) a b = ([], both a b) by unfold bin2; rw [if_neg h]]
    generalize both a b = x at *
    have h2 : (x != 0) = true := by rw [bne_iff_ne]; exact h
    go_enter Tryz.func32, Tryz.ntmps32
    go_wp2_with fail
    refine (HB.out _).mono ?_; rintro e w1 ⟨rfl, hb1⟩
    go_wp2
    go_ret2
    exact ⟨rfl, hb1⟩

set_option maxRecDepth 100000 in
set_option maxHeartbeats 2000000 in
theorem wMul_c (a b : List UInt8) (w : World) (hg : Good w) (ha : a.length ≤ 140737488355328) (hb : b.length ≤ 140737488355328) : Calls Tryz.prog 10 #[.string ⟨a.toArray⟩, .string ⟨b.toArray⟩] w (Ret w (ans2 (bin2 (fun m n => kept (m * n)) a b))) := by
  have HB := Lib.hid (fun t => allz a b w ha hb t)
  have HG := Lib.hid hg
  clear hg
  by_cases h : both a b = 0
  · rw [show bin2 (fun m n => kept (m * n)) a b = (fun m n => kept (m * n)) (val a) (val b) by unfold bin2; rw [if_pos h]]
    obtain ⟨ea, la⟩ := ok_text (both_zero.1 h).1
    obtain ⟨eb, lb⟩ := ok_text (both_zero.1 h).2
    rw [h] at HB
    rw [← ea, ← eb] at HB
    rw [show (Calls Tryz.prog 10 #[.string ⟨a.toArray⟩, .string ⟨b.toArray⟩] w) = (Calls Tryz.prog 10 #[.string ⟨(Lib.itoa (val a)).toArray⟩, .string ⟨(Lib.itoa (val b)).toArray⟩] w) by rw [ea, eb]]
    clear h ha hb ea eb
    generalize val a = m at *
    generalize val b = n at *
    have LA := Lib.hid la; have LB := Lib.hid lb
    clear la lb
    by_cases hs : (Lib.itoa m).length ≤ 9 ∧ (Lib.itoa n).length ≤ 9
    · have hsy := Lib.hid (fun W => small_yes m n W hs.1 hs.2)
      obtain ⟨m0, m1⟩ := small_bd hs.1
      obtain ⟨n0, n1⟩ := small_bd hs.2
      obtain ⟨p0, p1⟩ := mul_bd ⟨m0, m1⟩ ⟨n0, n1⟩
      rw [show (fun m n => kept (m * n)) m n = (Lib.itoa (m * n), 0) from kept_small (by omega) (by omega)]
      clear hs
      go_enter Tryz.func10, Tryz.ntmps10
      go_wp2_with fail
      refine (HB.out _).mono ?_; rintro e w1 ⟨rfl, hb1⟩
      go_wp2_with fail
      refine (hsy.out _).mono ?_; rintro e w2 ⟨rfl, hb2⟩
      have hB2 := hb1.trans (hb2.mono hb1.size)
      go_wp2_with fail
      refine (result_c (m * n) _ (HG.out.later hB2) (by omega) (by omega)).mono ?_; rintro e w3 ⟨rfl, hb3⟩
      go_wp2
      go_ret2
      exact ⟨rfl, hB2.trans (hb3.mono hB2.size)⟩
    · have hsn := Lib.hid (fun W => small_no (Lib.itoa m) (Lib.itoa n) W hs)
      clear hs
      go_enter Tryz.func10, Tryz.ntmps10
      go_wp2_with fail
      refine (HB.out _).mono ?_; rintro e w1 ⟨rfl, hb1⟩
      go_wp2_with fail
      refine (hsn.out _).mono ?_; rintro e w2 ⟨rfl, rfl⟩
      go_wp2_with fail
      refine (read_c m _ (by have := lng_big LA.out; omega)).mono ?_; rintro e w2 ⟨g, rfl, hgg, hC, hb2⟩
      have hB2 := hb1.trans (hb2.mono hb1.size)
      have HC := Lib.hid hC
      have hglt := hC.lt
      clear hC
      go_wp2_with fail
      refine (read_c n _ (by have := lng_big LB.out; omega)).mono ?_; rintro e w3 ⟨g2, rfl, hgg2, hC2, hb3⟩
      have hB3 := hB2.trans (hb3.mono hB2.size)
      have HC2 := Lib.hid hC2
      have HC1 := Lib.hid (HC.out.later hb3 hglt)
      clear hC2
      go_wp2_with fail
      refine (times_c g g2 _ _ m.natAbs n.natAbs _ HC1.out HC2.out (mul_room LA.out LB.out)).mono ?_; rintro e w4 ⟨g3, rfl, hgg3, hC3, hb4⟩
      have hB4 := hB3.trans (hb4.mono hB3.size)
      have hlc := limited_c g3 _ _ _ hC3 (HG.out.later hB4)
      rw [sg_mul, sg_int, sg_int] at hlc
      have HLC := Lib.hid hlc
      clear hC3 hlc
      go_wp2_with fail
      refine HLC.out.mono ?_; rintro e w5 ⟨rfl, hb5⟩
      go_wp2
      go_ret2
      exact ⟨rfl, hB4.trans (hb5.mono hB4.size)⟩
  · rw [show bin2 (fun m n => kept (m * n)) a b = ([], both a b) by unfold bin2; rw [if_neg h]]
    generalize both a b = x at *
    have h2 : (x != 0) = true := by rw [bne_iff_ne]; exact h
    go_enter Tryz.func10, Tryz.ntmps10
    go_wp2_with fail
    refine (HB.out _).mono ?_; rintro e w1 ⟨rfl, hb1⟩
    go_wp2
    go_ret2
    exact ⟨rfl, hb1⟩

set_option maxRecDepth 100000 in
set_option maxHeartbeats 2000000 in
theorem wSub_c (a b : List UInt8) (w : World) (hg : Good w) (ha : a.length ≤ 140737488355328) (hb : b.length ≤ 140737488355328) : Calls Tryz.prog 34 #[.string ⟨a.toArray⟩, .string ⟨b.toArray⟩] w (Ret w (ans2 (bin2 (fun m n => kept (m - n)) a b))) := by
  have HB := Lib.hid (fun t => allz a b w ha hb t)
  have HG := Lib.hid hg
  clear hg
  by_cases h : both a b = 0
  · rw [show bin2 (fun m n => kept (m - n)) a b = (fun m n => kept (m - n)) (val a) (val b) by unfold bin2; rw [if_pos h]]
    obtain ⟨ea, la⟩ := ok_text (both_zero.1 h).1
    obtain ⟨eb, lb⟩ := ok_text (both_zero.1 h).2
    rw [h] at HB
    rw [← ea, ← eb] at HB
    rw [show (Calls Tryz.prog 34 #[.string ⟨a.toArray⟩, .string ⟨b.toArray⟩] w) = (Calls Tryz.prog 34 #[.string ⟨(Lib.itoa (val a)).toArray⟩, .string ⟨(Lib.itoa (val b)).toArray⟩] w) by rw [ea, eb]]
    clear h ha hb ea eb
    generalize val a = m at *
    generalize val b = n at *
    have lc : (-n).natAbs < big := by rw [Int.natAbs_neg]; exact lb
    have hop := Lib.hid (fun W => opposite_c n W (by have := lng_big lb; omega))
    have had := Lib.hid (fun W hW => wAdd_c (Lib.itoa m) (Lib.itoa (-n)) W hW (lng_txt la) (lng_txt lc))
    rw [bin2_itoa _ la lc, ← Int.sub_eq_add_neg] at had
    clear la lb lc
    go_enter Tryz.func34, Tryz.ntmps34
    go_wp2_with fail
    refine (HB.out _).mono ?_; rintro e w1 ⟨rfl, hb1⟩
    go_wp2_with fail
    refine (hop.out _).mono ?_; rintro e w2 ⟨rfl, rfl⟩
    go_wp2_with fail
    refine (had.out _ (HG.out.later hb1)).mono ?_; rintro e w3 ⟨rfl, hb3⟩
    go_wp2
    go_ret2
    exact ⟨rfl, hb1.trans (hb3.mono hb1.size)⟩
  · rw [show bin2 (fun m n => kept (m - n)) a b = ([], both a b) by unfold bin2; rw [if_neg h]]
    generalize both a b = x at *
    have h2 : (x != 0) = true := by rw [bne_iff_ne]; exact h
    go_enter Tryz.func34, Tryz.ntmps34
    go_wp2_with fail
    refine (HB.out _).mono ?_; rintro e w1 ⟨rfl, hb1⟩
    go_wp2
    go_ret2
    exact ⟨rfl, hb1⟩

set_option maxRecDepth 100000 in
set_option maxHeartbeats 2000000 in
theorem wNeg_c (a : List UInt8) (w : World) (ha : a.length ≤ 140737488355328) : Calls Tryz.prog 36 #[.string ⟨a.toArray⟩] w (Ret w (ans2 (un1 (fun m => (Lib.itoa (-m), 0)) a))) := by
  have HB := Lib.hid (wCheck_c a w ha)
  by_cases h : chk a = 0
  · rw [show un1 (fun m => (Lib.itoa (-m), 0)) a = (Lib.itoa (-(val a)), 0) by unfold un1; rw [if_pos h]]
    obtain ⟨ea, la⟩ := ok_text h
    rw [h] at HB
    rw [← ea] at HB
    rw [show (Calls Tryz.prog 36 #[.string ⟨a.toArray⟩] w) = (Calls Tryz.prog 36 #[.string ⟨(Lib.itoa (val a)).toArray⟩] w) by rw [ea]]
    clear h ha ea
    generalize val a = m at *
    have hop := Lib.hid (fun W => opposite_c m W (by have := lng_big la; omega))
    clear la
    go_enter Tryz.func36, Tryz.ntmps36
    go_wp2_with fail
    refine (HB.out).mono ?_; rintro e w1 ⟨rfl, hb1⟩
    go_wp2_with fail
    refine (hop.out _).mono ?_; rintro e w2 ⟨rfl, rfl⟩
    go_wp2
    go_ret2
    exact ⟨rfl, hb1⟩
  · rw [show un1 (fun m => (Lib.itoa (-m), 0)) a = ([], chk a) by unfold un1; rw [if_neg h]]
    generalize chk a = x at *
    have h2 : (x != 0) = true := by rw [bne_iff_ne]; exact h
    go_enter Tryz.func36, Tryz.ntmps36
    go_wp2_with fail
    refine (HB.out).mono ?_; rintro e w1 ⟨rfl, hb1⟩
    go_wp2
    go_ret2
    exact ⟨rfl, hb1⟩
end Go.Proofs.Wk
