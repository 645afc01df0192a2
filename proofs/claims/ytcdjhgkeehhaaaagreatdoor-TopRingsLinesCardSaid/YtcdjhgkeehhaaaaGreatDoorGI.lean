/- THE PROGRAM's ARITHMETIC: sums, differences, products of texts. -/
import Derived.Test.YtcdjhgkeehhaaaaGreatDoorGH
import Derived.Test.YtcdjhgkeehhaaaaGreatDoorGG
import Derived.Test.YtcdjhgkeehhaaaaGreatDoorGA
namespace Go.Proofs.Wk
open Go.RowKit Mt

theorem sg_add (sx sy : Bool) (X Y : Nat) : sg (addS sx X sy Y).1 (addS sx X sy Y).2 = sg sx X + sg sy Y := by
  unfold addS
  by_cases h : sx = sy
  · rw [if_pos h]; subst h; cases sx <;> simp [sg] <;> omega
  · rw [if_neg h]
    by_cases hl : Y ≤ X
    · rw [if_pos hl]; cases sx <;> cases sy <;> simp [sg] at h ⊢ <;> omega
    · rw [if_neg hl]; cases sx <;> cases sy <;> simp [sg] at h ⊢ <;> omega
theorem addS_le (sx sy : Bool) (X Y : Nat) : (addS sx X sy Y).2 ≤ X + Y := by
  unfold addS
  split
  · exact Nat.le_refl _
  · split <;> simp <;> omega
theorem sg_int (n : Int) : sg (decide (n < 0)) n.natAbs = n := by
  by_cases h : n < 0
  · rw [decide_eq_true h]; simp [sg]; omega
  · rw [decide_eq_false h]; simp [sg]; omega
theorem sg_mul (sx sy : Bool) (X Y : Nat) : sg (sx != sy) (X * Y) = sg sx X * sg sy Y := by
  cases sx <;> cases sy <;> simp [sg, Int.natCast_mul, Int.neg_mul, Int.mul_neg]
theorem pow_words (k : Nat) : (10 : Nat) ^ (9 * k) = 1000000000 ^ k := by rw [Nat.pow_mul, ten9]
theorem max_pow {m k : Nat} (h : m < 1000000000 ^ k) (hk : k ≤ 232) : m < wmax := wmax_le.2 (Nat.le_trans ((wlen_le k m).2 h) hk)
theorem lng_words {n : Int} (k : Nat) (h : lng n ≤ 9 * k) (hk : 1 ≤ k) : n.natAbs < 1000000000 ^ k := by
  have h2 := (lng_le n (k := 9 * k) (by omega)).1 h
  rwa [pow_words] at h2
theorem big_words {n : Int} (h : n.natAbs < big) : n.natAbs < 1000000000 ^ 114 := lng_words 114 (by have := lng_big h; omega) (by omega)
theorem sum_room {i X Y : Nat} (hi : i ≤ 1000000) (hX : X ≤ i * 1000000000 ^ 114) (hY : Y < 1000000000 ^ 114) : X + Y < wmax ∧ X + Y ≤ (i + 1) * 1000000000 ^ 114 := by
  have h1 : (i + 1) * 1000000000 ^ 114 = i * 1000000000 ^ 114 + 1000000000 ^ 114 := by rw [Nat.add_mul, Nat.one_mul]
  have h2 : (i + 1) * 1000000000 ^ 114 < 1000000000 ^ 115 := by
    rw [Nat.pow_succ 1000000000 114, Nat.mul_comm]
    exact Nat.mul_lt_mul_of_pos_left (by omega) (Nat.pow_pos (by omega))
  refine ⟨max_pow (k := 115) ?_ (by omega), ?_⟩ <;> omega
theorem sum_take {ns : List Int} {i : Nat} (h : i < ns.length) : (ns.take (i + 1)).sum = (ns.take i).sum + ns[i] := by
  rw [List.take_succ_eq_append_getElem h, List.sum_append]; simp

set_option maxRecDepth 100000 in
set_option maxHeartbeats 2000000 in
theorem sum_c (b off c : Nat) (ns : List Int) (w : World) (hls : ns.length ≤ 1000000) (hlen : ∀ n ∈ ns, n.natAbs < big) (hR : RS w b off (ns.map Lib.itoa)) (hb : b < w.heap.size) (hg : Good w) :
    Calls Tryz.prog 121 #[.slice (some ⟨b, off, none⟩) ns.length c] w (Ret w (ans2 (kept ns.sum))) := by
  have HR := Lib.hid hR; have HL := Lib.hid hlen; have HG := Lib.hid hg
  clear hR hlen hg
  obtain ⟨n, hn⟩ : ∃ n, ns.length = n := ⟨_, rfl⟩
  rw [hn] at hls ⊢
  have HN := Lib.hid hn
  clear hn
  go_enter Tryz.func121, Tryz.ntmps121
  go_wp2
  go_loopw [11] (fun si wr => ∃ (i : Nat) (s : Bool) (X : Nat), si = .int .i64 i ∧ i ≤ n ∧ CW wr w.heap.size s X ∧ Hid (sg s X = (ns.take i).sum) ∧ Hid (X ≤ i * 1000000000 ^ 114) ∧ Below w.heap.size w wr) (fun si _ => n - (intOf si).toNat)
  case atStart => exact ⟨0, false, 0, rfl, Nat.zero_le _, CW.zero w, rfl, Nat.zero_le _, (Below.refl _ _).alloc (Nat.le_refl _) _⟩
  case round =>
    obtain ⟨i, s, X, rfl, hi, hC, hS, hX, hB⟩ := hrel
    by_cases hlt : i < n
    · have hil : i < ns.length := by rw [HN.out]; exact hlt
      have hc := (HR.out.later hB hb) i (by rw [List.length_map]; exact hil)
      rw [List.getElem_map] at hc
      have hbg := HL.out ns[i] (List.getElem_mem hil)
      have hst := sum_take hil
      obtain ⟨m, hm⟩ : ∃ m, ns[i] = m := ⟨_, rfl⟩
      rw [hm] at hc hbg hst
      obtain ⟨hr1, hr2⟩ := sum_room (by omega) hX.out (big_words hbg)
      have hrd := Lib.hid (fun W => read_c m W (by have := lng_big hbg; omega))
      have HST := Lib.hid hst; have HR1 := Lib.hid hr1; have HR2 := Lib.hid hr2; have HC := Lib.hid hC
      have hgl := hC.lt
      clear hm hbg hst hr1 hr2 hC
      go_wp2_with fail
      refine (hrd.out _).mono ?_
      rintro e w1 ⟨g, rfl, hg, hCg, hb1⟩
      have hC1 := HC.out.later hb1 hgl
      have HCG := Lib.hid hCg; have HC1 := Lib.hid hC1
      clear hCg hC1
      go_wp2_with fail
      refine (plus_c w.heap.size g s (decide (m < 0)) X m.natAbs _ HC1.out HCG.out (by omega) HR1.out).mono ?_
      rintro e w2 ⟨rfl, hC2, hG2⟩
      have hB2 := (hB.trans (hb1.mono hB.size)).trans (gb_below hG2 (Nat.le_refl _) (Nat.le_trans hB.size hb1.size))
      go_wp2
      go_roundw
      case rel =>
        refine ⟨i + 1, _, _, by go_num, by omega, hC2, ?_, Nat.le_trans (addS_le _ _ _ _) HR2.out, hB2⟩
        show _ = _
        rw [sg_add, sg_int, hS.out, HST.out]
      case measure => simp [intOf]; omega
    · obtain rfl : i = n := by omega
      have hsum : sg s X = ns.sum := by rw [hS.out, List.take_of_length_le (by rw [HN.out]; exact Nat.le_refl _)]
      have hlc := limited_c w.heap.size s X _ hC (HG.out.later hB)
      rw [hsum] at hlc
      have HLC := Lib.hid hlc
      clear hlc hsum
      go_wp2_with fail
      refine HLC.out.mono ?_
      rintro e w1 ⟨rfl, hb1⟩
      go_wp2
      go_ret2
      exact ⟨rfl, hB.trans (hb1.mono hB.size)⟩
end Go.Proofs.Wk
/- THE PROGRAM's ARITHMETIC: Add, Sub, Neg, Mul. -/
namespace Go.Proofs.Wk
open Go.RowKit Mt

theorem alloc_lt (w : World) (o : Obj) : w.heap.size < (w.alloc o).heap.size := by
  show _ < (w.heap.push o).size
  rw [Array.size_push]; omega
theorem allz (a b : List UInt8) (w : World) (ha : a.length ≤ 140737488355328) (hb : b.length ≤ 140737488355328) (t : TypeId) :
    Calls Tryz.prog 37 #[.slice (some ⟨w.heap.size, 0, none⟩) 2 2] (w.alloc (.cells #[.string ⟨a.toArray⟩, .string ⟨b.toArray⟩] t)) (fun e w' => e = .returned (.int .i64 (both a b)) ∧ Below w.heap.size w w') := by
  have := all_c w.heap.size 0 2 [a, b] (w.alloc (.cells #[.string ⟨a.toArray⟩, .string ⟨b.toArray⟩] t)) (by simp) (by simp [ha, hb]) (RS.two w a b t) (alloc_lt w _)
  rw [firstErr_two] at this
  refine this.mono ?_
  rintro e w' ⟨rfl, hb1⟩
  exact ⟨rfl, ((Below.refl _ _).alloc (Nat.le_refl _) _).trans (hb1.mono (Nat.le_of_lt (alloc_lt w _)))⟩
theorem kept_small {n : Int} (h0 : -2000000000000000000 ≤ n) (h1 : n ≤ 2000000000000000000) : kept n = (Lib.itoa n, 0) := by
  unfold kept
  have : lng n ≤ 1024 := by
    have h2 := (lng_le n (k := 19) (by omega)).2 (by omega)
    omega
  rw [if_pos (lng_big_iff.1 this)]
theorem small_bd {n : Int} (h : (Lib.itoa n).length ≤ 9) : -1000000000 < n ∧ n < 1000000000 := by
  have h1 := lng_itoa_lo n
  have h2 := (lng_le n (k := 9) (by omega)).1 (by omega)
  rw [ten9] at h2
  omega

theorem bin2_itoa (f : Int → Int → Txt × Int) {m n : Int} (hm : m.natAbs < big) (hn : n.natAbs < big) : bin2 f (Lib.itoa m) (Lib.itoa n) = f m n := by
  have h : both (Lib.itoa m) (Lib.itoa n) = 0 := both_zero.2 ⟨by rw [chk_itoa, if_pos hm], by rw [chk_itoa, if_pos hn]⟩
  unfold bin2
  rw [if_pos h, val_itoa, val_itoa]
theorem lng_txt {n : Int} (h : n.natAbs < big) : (Lib.itoa n).length ≤ 140737488355328 := by
  have h1 := lng_big h
  have h2 := lng_itoa n
  omega
theorem mul_room {m n : Int} (hm : m.natAbs < big) (hn : n.natAbs < big) : m.natAbs * n.natAbs < wmax := by
  have h1 := big_words hm
  have h2 := big_words hn
  refine max_pow (k := 228) ?_ (by omega)
  have h3 : (1000000000 : Nat) ^ 228 = 1000000000 ^ 114 * 1000000000 ^ 114 := by rw [← Nat.pow_add]
  rw [h3]
  exact Nat.mul_lt_mul_of_lt_of_lt h1 h2
theorem mul_bd {m n : Int} (hm : -1000000000 < m ∧ m < 1000000000) (hn : -1000000000 < n ∧ n < 1000000000) : -1000000000000000000 ≤ m * n ∧ m * n ≤ 1000000000000000000 := by
  have h : (m * n).natAbs ≤ 1000000000 * 1000000000 := by
    rw [Int.natAbs_mul]; exact Nat.mul_le_mul (by omega) (by omega)
  omega

set_option maxRecDepth 100000 in
set_option maxHeartbeats 2000000 in
theorem wAdd_c (a b : List UInt8) (w : World) (hg : Good w) (ha : a.length ≤ 140737488355328) (hb : b.length ≤ 140737488355328) : Calls Tryz.prog 118 #[.string ⟨a.toArray⟩, .string ⟨b.toArray⟩] w (Ret w (ans2 (bin2 (fun m n => kept (m + n)) a b))) := by
  have HB := Lib.hid (fun t => allz a b w ha hb t)
  have HG := Lib.hid hg
  clear hg
  by_cases h : both a b = 0
  · rw [show bin2 (fun m n => kept (m + n)) a b = (fun m n => kept (m + n)) (val a) (val b) by unfold bin2; rw [if_pos h]]
    obtain ⟨ea, la⟩ := ok_text (both_zero.1 h).1
    obtain ⟨eb, lb⟩ := ok_text (both_zero.1 h).2
    rw [h] at HB
    rw [← ea, ← eb] at HB
    rw [show (Calls Tryz.prog 118 #[.string ⟨a.toArray⟩, .string ⟨b.toArray⟩] w) = (Calls Tryz.prog 118 #[.string ⟨(Lib.itoa (val a)).toArray⟩, .string ⟨(Lib.itoa (val b)).toArray⟩] w) by rw [ea, eb]]
    clear h ha hb ea eb
    generalize val a = m at *
    generalize val b = n at *
    have LA := Lib.hid la; have LB := Lib.hid lb
    clear la lb
    by_cases hs : (Lib.itoa m).length ≤ 9 ∧ (Lib.itoa n).length ≤ 9
    · have hsy := Lib.hid (fun W => small_yes m n W hs.1 hs.2)
      obtain ⟨m0, m1⟩ := small_bd hs.1
      obtain ⟨n0, n1⟩ := small_bd hs.2
      rw [show (fun m n => kept (m + n)) m n = (Lib.itoa (m + n), 0) from kept_small (by omega) (by omega)]
      clear hs
      go_enter Tryz.func118, Tryz.ntmps118
      go_wp2_with fail
      refine (HB.out _).mono ?_; rintro e w1 ⟨rfl, hb1⟩
      go_wp2_with fail
      refine (hsy.out _).mono ?_; rintro e w2 ⟨rfl, hb2⟩
      have hB2 := hb1.trans (hb2.mono hb1.size)
      go_wp2_with fail
      refine (result_c (m + n) _ (HG.out.later hB2) (by omega) (by omega)).mono ?_; rintro e w3 ⟨rfl, hb3⟩
      go_wp2
      go_ret2
      exact ⟨rfl, hB2.trans (hb3.mono hB2.size)⟩
    · have hsn := Lib.hid (fun W => small_no (Lib.itoa m) (Lib.itoa n) W hs)
      clear hs
      go_enter Tryz.func118, Tryz.ntmps118
      go_wp2_with fail
      refine (HB.out _).mono ?_; rintro e w1 ⟨rfl, hb1⟩
      go_wp2_with fail
      refine (hsn.out _).mono ?_; rintro e w2 ⟨rfl, rfl⟩
      go_wp2_with fail
      have hsm := fun t => sum_c w1.heap.size 0 2 [m, n] (w1.alloc (.cells #[.string ⟨(Lib.itoa m).toArray⟩, .string ⟨(Lib.itoa n).toArray⟩] t)) (by simp) (by simp [LA.out, LB.out]) (RS.two w1 _ _ t) (alloc_lt w1 _) ((HG.out.later hb1).later ((Below.refl _ _).alloc (Nat.le_refl _) _))
      rw [show ([m, n] : List Int).sum = m + n by simp] at hsm
      refine (hsm _).mono ?_; rintro e w3 ⟨rfl, hb3⟩
      go_wp2
      go_ret2
      exact ⟨rfl, hb1.trans ((((Below.refl _ _).alloc (Nat.le_refl _) _).trans (hb3.mono (Nat.le_of_lt (alloc_lt w1 _)))).mono hb1.size)⟩
  · rw [show bin2 (fun m n => kept (m + n)) a b = ([], both a b) by unfold bin2; rw [if_neg h]]
    generalize both a b = x at *
    have h2 : (x != 0) = true := by rw [bne_iff_ne]; exact h
    go_enter Tryz.func118, Tryz.ntmps118
    go_wp2_with fail
    refine (HB.out _).mono ?_; rintro e w1 ⟨rfl, hb1⟩
    go_wp2
    go_ret2
    exact ⟨rfl, hb1⟩

set_option maxRecDepth 100000 in
set_option maxHeartbeats 2000000 in
theorem wMul_c (a b : List UInt8) (w : World) (hg : Good w) (ha : a.length ≤ 140737488355328) (hb : b.length ≤ 140737488355328) : Calls Tryz.prog 36 #[.string ⟨a.toArray⟩, .string ⟨b.toArray⟩] w (Ret w (ans2 (bin2 (fun m n => kept (m * n)) a b))) := by
  have HB := Lib.hid (fun t => allz a b w ha hb t)
  have HG := Lib.hid hg
  clear hg
  by_cases h : both a b = 0
  · rw [show bin2 (fun m n => kept (m * n)) a b = (fun m n => kept (m * n)) (val a) (val b) by unfold bin2; rw [if_pos h]]
    obtain ⟨ea, la⟩ := ok_text (both_zero.1 h).1
    obtain ⟨eb, lb⟩ := ok_text (both_zero.1 h).2
    rw [h] at HB
    rw [← ea, ← eb] at HB
    rw [show (Calls Tryz.prog 36 #[.string ⟨a.toArray⟩, .string ⟨b.toArray⟩] w) = (Calls Tryz.prog 36 #[.string ⟨(Lib.itoa (val a)).toArray⟩, .string ⟨(Lib.itoa (val b)).toArray⟩] w) by rw [ea, eb]]
    clear h ha hb ea eb
    generalize val a = m at *
    generalize val b = n at *
    have LA := Lib.hid la; have LB := Lib.hid lb
    clear la lb
    by_cases hs : (Lib.itoa m).length ≤ 9 ∧ (Lib.itoa n).length ≤ 9
    · have hsy := Lib.hid (fun W => small_yes m n W hs.1 hs.2)
      obtain ⟨m0, m1⟩ := small_bd hs.1
      obtain ⟨n0, n1⟩ := small_bd hs.2
      obtain ⟨p0, p1⟩ := mul_bd ⟨m0, m1⟩ ⟨n0, n1⟩
      rw [show (fun m n => kept (m * n)) m n = (Lib.itoa (m * n), 0) from kept_small (by omega) (by omega)]
      clear hs
      go_enter Tryz.func36, Tryz.ntmps36
      go_wp2_with fail
      refine (HB.out _).mono ?_; rintro e w1 ⟨rfl, hb1⟩
      go_wp2_with fail
      refine (hsy.out _).mono ?_; rintro e w2 ⟨rfl, hb2⟩
      have hB2 := hb1.trans (hb2.mono hb1.size)
      go_wp2_with fail
      refine (result_c (m * n) _ (HG.out.later hB2) (by omega) (by omega)).mono ?_; rintro e w3 ⟨rfl, hb3⟩
      go_wp2
      go_ret2
      exact ⟨rfl, hB2.trans (hb3.mono hB2.size)⟩
    · have hsn := Lib.hid (fun W => small_no (Lib.itoa m) (Lib.itoa n) W hs)
      clear hs
      go_enter Tryz.func36, Tryz.ntmps36
      go_wp2_with fail
      refine (HB.out _).mono ?_; rintro e w1 ⟨rfl, hb1⟩
      go_wp2_with fail
      refine (hsn.out _).mono ?_; rintro e w2 ⟨rfl, rfl⟩
      go_wp2_with fail
      refine (read_c m _ (by have := lng_big LA.out; omega)).mono ?_; rintro e w2 ⟨g, rfl, hgg, hC, hb2⟩
      have hB2 := hb1.trans (hb2.mono hb1.size)
      have HC := Lib.hid hC
      have hglt := hC.lt
      clear hC
      go_wp2_with fail
      refine (read_c n _ (by have := lng_big LB.out; omega)).mono ?_; rintro e w3 ⟨g2, rfl, hgg2, hC2, hb3⟩
      have hB3 := hB2.trans (hb3.mono hB2.size)
      have HC2 := Lib.hid hC2
      have HC1 := Lib.hid (HC.out.later hb3 hglt)
      clear hC2
      go_wp2_with fail
      refine (times_c g g2 _ _ m.natAbs n.natAbs _ HC1.out HC2.out (mul_room LA.out LB.out)).mono ?_; rintro e w4 ⟨g3, rfl, hgg3, hC3, hb4⟩
      have hB4 := hB3.trans (hb4.mono hB3.size)
      have hlc := limited_c g3 _ _ _ hC3 (HG.out.later hB4)
      rw [sg_mul, sg_int, sg_int] at hlc
      have HLC := Lib.hid hlc
      clear hC3 hlc
      go_wp2_with fail
      refine HLC.out.mono ?_; rintro e w5 ⟨rfl, hb5⟩
      go_wp2
      go_ret2
      exact ⟨rfl, hB4.trans (hb5.mono hB4.size)⟩
  · rw [show bin2 (fun m n => kept (m * n)) a b = ([], both a b) by unfold bin2; rw [if_neg h]]
    generalize both a b = x at *
    have h2 : (x != 0) = true := by rw [bne_iff_ne]; exact h
    go_enter Tryz.func36, Tryz.ntmps36
    go_wp2_with fail
    refine (HB.out _).mono ?_; rintro e w1 ⟨rfl, hb1⟩
    go_wp2
    go_ret2
    exact ⟨rfl, hb1⟩

set_option maxRecDepth 100000 in
set_option maxHeartbeats 2000000 in
theorem wSub_c (a b : List UInt8) (w : World) (hg : Good w) (ha : a.length ≤ 140737488355328) (hb : b.length ≤ 140737488355328) : Calls Tryz.prog 86 #[.string ⟨a.toArray⟩, .string ⟨b.toArray⟩] w (Ret w (ans2 (bin2 (fun m n => kept (m - n)) a b))) := by
  have HB := Lib.hid (fun t => allz a b w ha hb t)
  have HG := Lib.hid hg
  clear hg
  by_cases h : both a b = 0
  · rw [show bin2 (fun m n => kept (m - n)) a b = (fun m n => kept (m - n)) (val a) (val b) by unfold bin2; rw [if_pos h]]
    obtain ⟨ea, la⟩ := ok_text (both_zero.1 h).1
    obtain ⟨eb, lb⟩ := ok_text (both_zero.1 h).2
    rw [h] at HB
    rw [← ea, ← eb] at HB
    rw [show (Calls Tryz.prog 86 #[.string ⟨a.toArray⟩, .string ⟨b.toArray⟩] w) = (Calls Tryz.prog 86 #[.string ⟨(Lib.itoa (val a)).toArray⟩, .string ⟨(Lib.itoa (val b)).toArray⟩] w) by rw [ea, eb]]
    clear h ha hb ea eb
    generalize val a = m at *
    generalize val b = n at *
    have lc : (-n).natAbs < big := by rw [Int.natAbs_neg]; exact lb
    have hop := Lib.hid (fun W => opposite_c n W (by have := lng_big lb; omega))
    have had := Lib.hid (fun W hW => wAdd_c (Lib.itoa m) (Lib.itoa (-n)) W hW (lng_txt la) (lng_txt lc))
    rw [bin2_itoa _ la lc, ← Int.sub_eq_add_neg] at had
    clear la lb lc
    go_enter Tryz.func86, Tryz.ntmps86
    go_wp2_with fail
    refine (HB.out _).mono ?_; rintro e w1 ⟨rfl, hb1⟩
    go_wp2_with fail
    refine (hop.out _).mono ?_; rintro e w2 ⟨rfl, rfl⟩
    go_wp2_with fail
    refine (had.out _ (HG.out.later hb1)).mono ?_; rintro e w3 ⟨rfl, hb3⟩
    go_wp2
    go_ret2
    exact ⟨rfl, hb1.trans (hb3.mono hb1.size)⟩
  · rw [show bin2 (fun m n => kept (m - n)) a b = ([], both a b) by unfold bin2; rw [if_neg h]]
    generalize both a b = x at *
    have h2 : (x != 0) = true := by rw [bne_iff_ne]; exact h
    go_enter Tryz.func86, Tryz.ntmps86
    go_wp2_with fail
    refine (HB.out _).mono ?_; rintro e w1 ⟨rfl, hb1⟩
    go_wp2
    go_ret2
    exact ⟨rfl, hb1⟩

set_option maxRecDepth 100000 in
set_option maxHeartbeats 2000000 in
theorem wNeg_c (a : List UInt8) (w : World) (ha : a.length ≤ 140737488355328) : Calls Tryz.prog 144 #[.string ⟨a.toArray⟩] w (Ret w (ans2 (un1 (fun m => (Lib.itoa (-m), 0)) a))) := by
  have HB := Lib.hid (wCheck_c a w ha)
  by_cases h : chk a = 0
  · rw [show un1 (fun m => (Lib.itoa (-m), 0)) a = (Lib.itoa (-(val a)), 0) by unfold un1; rw [if_pos h]]
    obtain ⟨ea, la⟩ := ok_text h
    rw [h] at HB
    rw [← ea] at HB
    rw [show (Calls Tryz.prog 144 #[.string ⟨a.toArray⟩] w) = (Calls Tryz.prog 144 #[.string ⟨(Lib.itoa (val a)).toArray⟩] w) by rw [ea]]
    clear h ha ea
    generalize val a = m at *
    have hop := Lib.hid (fun W => opposite_c m W (by have := lng_big la; omega))
    clear la
    go_enter Tryz.func144, Tryz.ntmps144
    go_wp2_with fail
    refine (HB.out).mono ?_; rintro e w1 ⟨rfl, hb1⟩
    go_wp2_with fail
    refine (hop.out _).mono ?_; rintro e w2 ⟨rfl, rfl⟩
    go_wp2
    go_ret2
    exact ⟨rfl, hb1⟩
  · rw [show un1 (fun m => (Lib.itoa (-m), 0)) a = ([], chk a) by unfold un1; rw [if_neg h]]
    generalize chk a = x at *
    have h2 : (x != 0) = true := by rw [bne_iff_ne]; exact h
    go_enter Tryz.func144, Tryz.ntmps144
    go_wp2_with fail
    refine (HB.out).mono ?_; rintro e w1 ⟨rfl, hb1⟩
    go_wp2
    go_ret2
    exact ⟨rfl, hb1⟩
end Go.Proofs.Wk
/- PLAIN MATHEMATICS: the quotient that is rounded down. -/
namespace Mt
open Go.Lib Go.Proofs.Wk

theorem fl_unique {m n q r : Int} (h : m = q * n + r) (hp : 0 < n → 0 ≤ r ∧ r < n) (hn : n < 0 → n < r ∧ r ≤ 0) (h0 : n ≠ 0) : m.fdiv n = q ∧ m.fmod n = r := by
  have pos : ∀ {m n q r : Int}, m = q * n + r → 0 < n → 0 ≤ r → r < n → m.fdiv n = q ∧ m.fmod n = r := by
    intro m n q r h h1 h2 h3
    rw [Int.fdiv_eq_ediv_of_nonneg _ (by omega), Int.fmod_eq_emod_of_nonneg _ (by omega), h, Int.add_comm, Int.add_mul_ediv_right _ _ (by omega), Int.ediv_eq_zero_of_lt h2 h3, Int.add_mul_emod_self_right, Int.emod_eq_of_lt h2 h3]
    exact ⟨by omega, rfl⟩
  rcases Int.lt_or_gt_of_ne h0 with h1 | h1
  · obtain ⟨h2, h3⟩ := hn h1
    have := pos (m := -m) (n := -n) (q := q) (r := -r) (by rw [h, Int.mul_neg]; omega) (by omega) (by omega) (by omega)
    rw [Int.neg_fdiv_neg, Int.neg_fmod_neg] at this
    exact ⟨this.1, by omega⟩
  · obtain ⟨h2, h3⟩ := hp h1
    exact pos h h1 h2 h3
theorem nat_parts (X Y : Nat) : (X : Int) = ((X / Y : Nat) : Int) * Y + ((X % Y : Nat) : Int) := by
  have := Nat.div_add_mod X Y
  have e : ((X / Y : Nat) : Int) * (Y : Int) = ((Y * (X / Y) : Nat) : Int) := by rw [Int.natCast_mul, Int.mul_comm]
  rw [e]; omega
/-- No correction is needed. -/
theorem fl_same {sx sy : Bool} {X Y : Nat} (hY : Y ≠ 0) (h : X % Y = 0 ∨ sx = sy) :
    (sg sx X).fdiv (sg sy Y) = sg (sx != sy) (X / Y) ∧ (sg sx X).fmod (sg sy Y) = sg sx (X % Y) := by
  have e := nat_parts X Y
  have hl : X % Y < Y := Nat.mod_lt _ (Nat.pos_of_ne_zero hY)
  generalize X / Y = Q at *
  generalize X % Y = R at *
  apply fl_unique
  · cases sx <;> cases sy <;> simp [sg, Int.neg_mul, Int.mul_neg] <;> omega
  · cases sx <;> cases sy <;> simp [sg] at h ⊢ <;> omega
  · cases sx <;> cases sy <;> simp [sg] at h ⊢ <;> omega
  · cases sy <;> simp [sg] <;> omega
/-- One is taken off. -/
theorem fl_other {sx sy : Bool} {X Y : Nat} (hY : Y ≠ 0) (h : X % Y ≠ 0) (hs : sx ≠ sy) :
    (sg sx X).fdiv (sg sy Y) = sg true (X / Y + 1) ∧ (sg sx X).fmod (sg sy Y) = sg sy (Y - X % Y) := by
  have e := nat_parts X Y
  have hl : X % Y < Y := Nat.mod_lt _ (Nat.pos_of_ne_zero hY)
  generalize X / Y = Q at *
  generalize X % Y = R at *
  have e2 : (-((Q + 1 : Nat) : Int)) * (Y : Int) = -((Q : Int) * Y) - Y := by
    rw [Int.neg_mul, Int.natCast_add, Int.add_mul]; omega
  apply fl_unique
  · cases sx <;> cases sy <;> simp [sg, Int.neg_mul, Int.mul_neg] at hs e2 ⊢ <;> omega
  · cases sx <;> cases sy <;> simp [sg] at hs ⊢ <;> omega
  · cases sx <;> cases sy <;> simp [sg] at hs ⊢ <;> omega
  · cases sy <;> simp [sg] <;> omega
/-- The quotient rounded down, from the one that is rounded towards 0. -/
theorem fl_trunc {m n : Int} (h0 : n ≠ 0) :
    (m.tmod n ≠ 0 ∧ ((m.tmod n < 0) ≠ (n < 0)) → m.fdiv n = m.tdiv n - 1 ∧ m.fmod n = m.tmod n + n) ∧
    (¬ (m.tmod n ≠ 0 ∧ ((m.tmod n < 0) ≠ (n < 0))) → m.fdiv n = m.tdiv n ∧ m.fmod n = m.tmod n) := by
  have e := Int.mul_tdiv_add_tmod m n
  have hb : (m.tmod n).natAbs < n.natAbs := by
    rw [Int.natAbs_tmod]; exact Nat.mod_lt _ (by omega)
  generalize m.tdiv n = q at *
  generalize m.tmod n = r at *
  have e2 : (q - 1) * n = n * q - n := by rw [Int.sub_mul, Int.mul_comm q]; omega
  have e3 : q * n = n * q := Int.mul_comm ..
  refine ⟨fun h => fl_unique (by omega) (fun hn => ?_) (fun hn => ?_) h0, fun h => fl_unique (by omega) (fun hn => ?_) (fun hn => ?_) h0⟩
  · obtain ⟨h1, h2⟩ := h
    have : r < 0 := by
      by_cases h3 : r < 0
      · exact h3
      · exact absurd (propext ⟨fun _ => by omega, fun _ => by omega⟩) h2
    omega
  · obtain ⟨h1, h2⟩ := h
    have : ¬ r < 0 := fun h3 => h2 (propext ⟨fun _ => hn, fun _ => h3⟩)
    omega
  · have : ¬ r < 0 := fun h3 => h ⟨by omega, fun e4 => by have := e4 ▸ h3; omega⟩
    omega
  · have : r ≤ 0 := by
      by_cases h3 : 0 < r
      · exact absurd ⟨by omega, fun e4 => by have : r < 0 := e4 ▸ hn; omega⟩ h
      · omega
    omega
end Mt
/- PLAIN LAWS: quotients rounded down, greatest common divisors. -/
namespace Go.Proofs.Wk
open Go.RowKit Mt

/-- Go's quotient and remainder of (m - r) where r is the remainder of the rounded quotient. -/
theorem exact_quo {m n r : Int} (h0 : n ≠ 0) (hr : m.fmod n = r) : (m - r).tdiv n = m.fdiv n := by
  have h := Int.mul_fdiv_add_fmod m n
  have e : m - r = n * m.fdiv n := by rw [hr] at h; omega
  rw [e, Int.mul_tdiv_cancel_left _ h0]
/-- The remainder of the rounded quotient out of Go's. -/
theorem fmod_add {m n : Int} (h0 : n ≠ 0) (h : m.tmod n ≠ 0 ∧ ((m.tmod n < 0) ≠ (n < 0))) : m.fmod n = m.tmod n + n := ((fl_trunc (m := m) h0).1 h).2
theorem fmod_same {m n : Int} (h0 : n ≠ 0) (h : ¬ (m.tmod n ≠ 0 ∧ ((m.tmod n < 0) ≠ (n < 0)))) : m.fmod n = m.tmod n := ((fl_trunc (m := m) h0).2 h).2
theorem tmod_lt {m n : Int} (h0 : n ≠ 0) : (m.tmod n).natAbs < n.natAbs := by rw [Int.natAbs_tmod]; exact Nat.mod_lt _ (by omega)
theorem fdiv_le {m n : Int} (h0 : n ≠ 0) : (m.fdiv n).natAbs ≤ m.natAbs := by
  by_cases hm : m = 0
  · subst hm; simp
  have e := Int.mul_fdiv_add_fmod m n
  have b : (m.fmod n).natAbs < n.natAbs := by
    by_cases h : m.tmod n ≠ 0 ∧ ((m.tmod n < 0) ≠ (n < 0))
    · rw [fmod_add h0 h]; have := tmod_lt (m := m) h0
      obtain ⟨h1, h2⟩ := h
      by_cases a : m.tmod n < 0 <;> by_cases c : n < 0 <;> simp [a, c] at h2 <;> omega
    · rw [fmod_same h0 h]; exact tmod_lt h0
  by_cases hq : (m.fdiv n).natAbs ≤ 1
  · omega
  · -- |n| |q| ≤ |m| + |r| < |m| + |n|
    have e2 : n * m.fdiv n = m - m.fmod n := by omega
    have e3 : n.natAbs * (m.fdiv n).natAbs = (m - m.fmod n).natAbs := by rw [← Int.natAbs_mul, e2]
    generalize (m.fdiv n).natAbs = q at *
    generalize n.natAbs = k at *
    have : k * q < m.natAbs + k := by omega
    by_cases hk : k ≤ 1
    · have : k = 1 := by omega
      subst this; omega
    · obtain ⟨q', rfl⟩ : ∃ q', q = q' + 2 := ⟨q - 2, by omega⟩
      obtain ⟨k', rfl⟩ : ∃ k', k = k' + 2 := ⟨k - 2, by omega⟩
      have : (k' + 2) * (q' + 2) = (k' + 2) * (q' + 1) + (k' + 2) := by rw [← Nat.mul_succ]
      have h3 : (k' + 2) * (q' + 1) < m.natAbs := by omega
      have h4 : 2 * (q' + 1) ≤ (k' + 2) * (q' + 1) := Nat.mul_le_mul_right _ (by omega)
      omega
theorem fmod_le {m n : Int} (h0 : n ≠ 0) : (m.fmod n).natAbs < n.natAbs := by
  by_cases h : m.tmod n ≠ 0 ∧ ((m.tmod n < 0) ≠ (n < 0))
  · rw [fmod_add h0 h]; have := tmod_lt (m := m) h0
    obtain ⟨h1, h2⟩ := h
    by_cases a : m.tmod n < 0 <;> by_cases c : n < 0 <;> simp [a, c] at h2 <;> omega
  · rw [fmod_same h0 h]; exact tmod_lt h0
/-- The quotient and the remainder of numbers with signs. -/
theorem sub_mul_fdiv (m n : Int) : m - m.fdiv n * n = m.fmod n := by
  have := Int.mul_fdiv_add_fmod m n
  rw [Int.mul_comm]; omega
end Go.Proofs.Wk
/- PLAIN LAWS: powers and binomials. -/
namespace Go.Proofs.Wk
open Go.RowKit Mt

/-! ### powers -/
theorem one_lt_big : 1 < big := by
  have h : lng 1 ≤ 1024 := Nat.le_trans ((lng_le 1 (k := 1) (by omega)).2 (by decide)) (by omega)
  exact lng_big_iff.1 h
theorem pow_big {a : Int} {i n : Nat} (h : big ≤ (a ^ i).natAbs) (hin : i ≤ n) : big ≤ (a ^ n).natAbs := by
  rw [Int.natAbs_pow] at *
  have h1 := one_lt_big
  by_cases h0 : a.natAbs = 0
  · rw [h0] at h
    rcases i with _ | i
    · simp at h; omega
    · simp at h; omega
  · exact Nat.le_trans h (Nat.pow_le_pow_right (by omega) hin)
theorem kept_ge {n : Int} (h : big ≤ n.natAbs) : kept n = ([], 11) := by unfold kept; rw [if_neg (by omega)]
theorem kept_lt {n : Int} (h : n.natAbs < big) : kept n = (Lib.itoa n, 0) := by unfold kept; rw [if_pos h]

/-! ### binomials -/
def cho : Nat → Nat → Nat
  | _, 0 => 1
  | 0, _ + 1 => 0
  | n + 1, k + 1 => cho n k + cho n (k + 1)
theorem cho_zero (n : Nat) : cho n 0 = 1 := by cases n <;> rfl
theorem cho_succ (n k : Nat) : cho (n + 1) (k + 1) = cho n k + cho n (k + 1) := rfl
theorem cho_gt : ∀ (n k : Nat), n < k → cho n k = 0
  | 0, k + 1, _ => rfl
  | n + 1, 0, h => by omega
  | n + 1, k + 1, h => by rw [cho_succ, cho_gt n k (by omega), cho_gt n (k + 1) (by omega)]
theorem cho_self : ∀ n : Nat, cho n n = 1
  | 0 => rfl
  | n + 1 => by rw [cho_succ, cho_self n, cho_gt n (n + 1) (by omega)]
theorem cho_step : ∀ (n i : Nat), cho n (i + 1) * (i + 1) = cho n i * (n - i)
  | 0, i => by simp [cho]
  | n + 1, 0 => by
    have h := cho_step n 0
    rw [cho_succ, cho_zero, cho_zero] at *
    rw [Nat.add_mul, h]; omega
  | n + 1, j + 1 => by
    have h1 := cho_step n (j + 1)
    have h2 := cho_step n j
    rw [cho_succ n (j + 1), cho_succ n j]
    by_cases hj : j + 1 ≤ n
    · rw [Nat.add_mul, h1, Nat.add_mul]
      rw [show n + 1 - (j + 1) = n - j by omega, ← h2, ← Nat.mul_add, ← Nat.mul_add]
      congr 1; omega
    · rw [cho_gt n (j + 1) (by omega), cho_gt n (j + 1 + 1) (by omega)]
      rw [show n + 1 - (j + 1) = 0 by omega]; simp
theorem cho_le {n i : Nat} (h : 2 * i + 1 ≤ n) : cho n i ≤ cho n (i + 1) := by
  have e := cho_step n i
  have h1 : cho n i * (i + 1) ≤ cho n i * (n - i) := Nat.mul_le_mul_left _ (by omega)
  rw [← e] at h1
  exact Nat.le_of_mul_le_mul_right h1 (by omega)
theorem cho_mono {n i : Nat} : ∀ (d : Nat), 2 * (i + d) ≤ n → cho n i ≤ cho n (i + d)
  | 0, _ => Nat.le_refl _
  | d + 1, h => Nat.le_trans (cho_mono d (by omega)) (cho_le (n := n) (i := i + d) (by omega))
def fact : Nat → Nat
  | 0 => 1
  | n + 1 => (n + 1) * fact n
theorem fact_pos : ∀ n, 0 < fact n
  | 0 => by decide
  | n + 1 => Nat.mul_pos (by omega) (fact_pos n)
theorem cho_fact (n : Nat) : ∀ k, k ≤ n → cho n k * (fact k * fact (n - k)) = fact n
  | 0, _ => by rw [cho_zero]; simp [fact]
  | k + 1, h => by
    have ih := cho_fact n k (by omega)
    have e := cho_step n k
    have e1 : fact (k + 1) = (k + 1) * fact k := rfl
    have e2 : fact (n - k) = (n - k) * fact (n - (k + 1)) := by
      rw [show n - k = (n - (k + 1)) + 1 by omega]; rfl
    rw [e2] at ih
    rw [e1, ← ih]
    calc cho n (k + 1) * ((k + 1) * fact k * fact (n - (k + 1))) = (cho n (k + 1) * (k + 1)) * (fact k * fact (n - (k + 1))) := by simp [Nat.mul_assoc]
      _ = (cho n k * (n - k)) * (fact k * fact (n - (k + 1))) := by rw [e]
      _ = _ := by simp [Nat.mul_assoc, Nat.mul_comm, Nat.mul_left_comm]
theorem cho_sym {n k : Nat} (h : k ≤ n) : cho n (n - k) = cho n k := by
  have h1 := cho_fact n k h
  have h2 := cho_fact n (n - k) (by omega)
  rw [show n - (n - k) = k by omega, Nat.mul_comm (fact (n - k))] at h2
  exact Nat.eq_of_mul_eq_mul_right (Nat.mul_pos (fact_pos k) (fact_pos (n - k))) (h2.trans h1.symm)
theorem cho_min {n k : Nat} (h : k ≤ n) : cho n (min k (n - k)) = cho n k := by
  by_cases hk : k ≤ n - k
  · rw [Nat.min_eq_left hk]
  · rw [Nat.min_eq_right (by omega), cho_sym h]
theorem cho_div {n i : Nat} : cho n i * (n - i) / (i + 1) = cho n (i + 1) := by
  rw [← cho_step]; exact Nat.mul_div_cancel _ (by omega)
theorem cho_pos {n k : Nat} (h : k ≤ n) : 0 < cho n k := by
  have := cho_fact n k h
  rcases Nat.eq_zero_or_pos (cho n k) with h0 | h0
  · rw [h0] at this; have := fact_pos n; omega
  · exact h0
/-- The binomial of ints. -/
def choi (n k : Int) : Int := if 0 ≤ k ∧ k ≤ n then (cho n.toNat k.toNat : Int) else 0
def bino (n k : Int) : Txt × Int := if n < 0 ∨ 4096 < n then ([], 2) else kept (choi n k)
def pow2 (n : Int) (a : Int) : Txt × Int := if n < 0 ∨ 4096 < n then ([], 2) else kept (a ^ n.toNat)
def tot2 (ls : List Txt) : Txt × Int := if 4096 < ls.length then ([], 5) else if firstErr ls = 0 then kept (ls.map val).sum else ([], firstErr ls)
theorem firstErr_zero : ∀ {ls : List Txt}, firstErr ls = 0 → ∀ l ∈ ls, chk l = 0
  | [], _, l, hl => by cases hl
  | a :: t, h, l, hl => by
    unfold firstErr at h
    by_cases ha : chk a = 0
    · rw [if_pos ha] at h
      rcases List.mem_cons.1 hl with rfl | h2
      · exact ha
      · exact firstErr_zero h l h2
    · rw [if_neg ha] at h; exact absurd h ha
theorem map_val {ls : List Txt} (h : ∀ l ∈ ls, chk l = 0) : (ls.map val).map Lib.itoa = ls := by
  rw [List.map_map]
  conv => rhs; rw [← List.map_id ls]
  exact List.map_congr_left fun l hl => (ok_text (h l hl)).1
theorem map_val_big {ls : List Txt} (h : ∀ l ∈ ls, chk l = 0) : ∀ n ∈ ls.map val, n.natAbs < big := by
  intro n hn
  obtain ⟨l, hl, rfl⟩ := List.mem_map.1 hn
  exact (ok_text (h l hl)).2
end Go.Proofs.Wk
/- PLAIN LAWS: sums of binomials; lengths of powers. -/
namespace Go.Proofs.Wk
open Go.RowKit Mt

theorem cho_le_pow : ∀ n k : Nat, cho n k ≤ 2 ^ n
  | n, 0 => by rw [cho_zero]; exact Nat.one_le_two_pow
  | 0, k + 1 => by simp [cho]
  | n + 1, k + 1 => by
    rw [cho_succ, Nat.pow_succ]
    have h1 := cho_le_pow n k
    have h2 := cho_le_pow n (k + 1)
    omega
def choSum (n k : Nat) : Nat := ((List.range k).map (cho n)).sum
theorem choSum_succ (n k : Nat) : choSum n (k + 1) = choSum n k + cho n k := by
  unfold choSum; rw [List.range_succ, List.map_append, List.sum_append]; simp
theorem choSum_step (n : Nat) : ∀ k, choSum (n + 1) (k + 1) = choSum n (k + 1) + choSum n k
  | 0 => by rw [choSum_succ, choSum_succ, cho_zero, cho_zero]; rfl
  | k + 1 => by
    rw [choSum_succ, choSum_step n k, choSum_succ n (k + 1), choSum_succ n k, cho_succ]; omega
theorem choSum_all : ∀ n, choSum n (n + 1) = 2 ^ n
  | 0 => rfl
  | n + 1 => by
    rw [choSum_step, choSum_succ n (n + 1), cho_gt n (n + 1) (by omega), Nat.pow_succ, Nat.add_zero, choSum_all n]; omega
theorem choi_pascal {m : Nat} {j : Int} (hj : 0 ≤ j) : choi (1 + (m : Int)) j = choi m j + choi m (j - 1) := by
  obtain ⟨k, rfl⟩ : ∃ k : Nat, j = k := ⟨j.toNat, by omega⟩
  unfold choi
  rw [show ((1 : Int) + m).toNat = m + 1 by omega, Int.toNat_natCast, Int.toNat_natCast]
  rcases k with _ | k
  · rw [cho_zero, if_pos (by omega), if_pos (by omega), if_neg (by omega)]; simp [cho_zero]
  · rw [show ((k + 1 : Nat) : Int) - 1 = (k : Int) by omega, Int.toNat_natCast, cho_succ]
    by_cases h1 : k + 1 ≤ m
    · rw [if_pos (by omega), if_pos (by omega), if_pos (by omega)]; omega
    · by_cases h2 : k ≤ m
      · rw [if_pos (by omega), if_neg (by omega), if_pos (by omega), cho_gt m (k + 1) (by omega)]; omega
      · rw [if_neg (by omega), if_neg (by omega), if_neg (by omega)]; rfl
theorem choi_sym {m j : Int} (hm : 0 ≤ m) : choi m (m - j) = choi m j := by
  unfold choi
  by_cases h : 0 ≤ j ∧ j ≤ m
  · rw [if_pos h, if_pos (by omega), show (m - j).toNat = m.toNat - j.toNat by omega, cho_sym (by omega)]
  · rw [if_neg h, if_neg (by omega)]
theorem choi_bd {m j : Int} : 0 ≤ choi m j ∧ choi m j ≤ 2 ^ m.toNat := by
  unfold choi
  split
  · have := cho_le_pow m.toNat j.toNat
    have h2 : ((2 ^ m.toNat : Nat) : Int) = (2 : Int) ^ m.toNat := by simp
    omega
  · have : (0 : Int) ≤ 2 ^ m.toNat := Int.le_of_lt (Int.pow_pos (by omega))
    omega
theorem lng_pow {a : Int} {k : Nat} (h : lng a ≤ k) : ∀ n : Nat, lng (a ^ n) ≤ k * n + 1
  | 0 => by rw [Int.pow_zero]; exact (lng_le 1 (by omega)).2 (by simp)
  | n + 1 => by
    rw [Int.pow_succ]
    have := lng_mul _ a (lng_pow h n) h
    rw [Nat.mul_succ]; omega
theorem pow60 {m : Nat} (h : m ≤ 60) : (2 : Int) ^ m ≤ 2000000000000000000 := by
  have h1 : (2 : Nat) ^ m ≤ 2 ^ 60 := Nat.pow_le_pow_right (by omega) h
  have h2 : ((2 ^ m : Nat) : Int) = (2 : Int) ^ m := by simp
  have h3 : (2 : Nat) ^ 60 = 1152921504606846976 := by decide
  omega
end Go.Proofs.Wk
