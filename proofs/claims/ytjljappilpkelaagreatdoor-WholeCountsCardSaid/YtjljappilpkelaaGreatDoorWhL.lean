/- THE PROGRAM's ARITHMETIC: sums, differences, products of texts. -/
import Derived.Test.YtjljappilpkelaaGreatDoorWhK
import Derived.Test.YtjljappilpkelaaGreatDoorWhG
import Derived.Test.YtjljappilpkelaaGreatDoorMathC
namespace Go.Proofs.Wk
open Go.RowKit Mt

theorem sg_add (sx sy : Bool) (X Y : Nat) : sg (addS sx X sy Y).1 (addS sx X sy Y).2 = sg sx X + sg sy Y := by
  unfold addS
  by_cases h : sx = sy
  · rw [if_pos h]; subst h; cases sx <;> simp [sg] <;> omega
  · rw [if_neg h]
    by_cases hl : Y ≤ X
    · rw [if_pos hl]; cases sx <;> cases sy <;> simp [sg] at h ⊢ <;> omega
    · rw [if_neg hl]; cases sx <;> cases sy <;> simp [sg] at h ⊢ <;> omega
theorem addS_le (sx sy : Bool) (X Y : Nat) : (addS sx X sy Y).2 ≤ X + Y := by
  unfold addS
  split
  · exact Nat.le_refl _
  · split <;> simp <;> omega
theorem sg_int (n : Int) : sg (decide (n < 0)) n.natAbs = n := by
  by_cases h : n < 0
  · rw [decide_eq_true h]; simp [sg]; omega
  · rw [decide_eq_false h]; simp [sg]; omega
theorem sg_mul (sx sy : Bool) (X Y : Nat) : sg (sx != sy) (X * Y) = sg sx X * sg sy Y := by
  cases sx <;> cases sy <;> simp [sg, Int.natCast_mul, Int.neg_mul, Int.mul_neg]
theorem pow_words (k : Nat) : (10 : Nat) ^ (9 * k) = 1000000000 ^ k := by rw [Nat.pow_mul, ten9]
theorem max_pow {m k : Nat} (h : m < 1000000000 ^ k) (hk : k ≤ 232) : m < wmax := wmax_le.2 (Nat.le_trans ((wlen_le k m).2 h) hk)
theorem lng_words {n : Int} (k : Nat) (h : lng n ≤ 9 * k) (hk : 1 ≤ k) : n.natAbs < 1000000000 ^ k := by
  have h2 := (lng_le n (k := 9 * k) (by omega)).1 h
  rwa [pow_words] at h2
theorem big_words {n : Int} (h : n.natAbs < big) : n.natAbs < 1000000000 ^ 114 := lng_words 114 (by have := lng_big h; omega) (by omega)
theorem sum_room {i X Y : Nat} (hi : i ≤ 1000000) (hX : X ≤ i * 1000000000 ^ 114) (hY : Y < 1000000000 ^ 114) : X + Y < wmax ∧ X + Y ≤ (i + 1) * 1000000000 ^ 114 := by
  have h1 : (i + 1) * 1000000000 ^ 114 = i * 1000000000 ^ 114 + 1000000000 ^ 114 := by rw [Nat.add_mul, Nat.one_mul]
  have h2 : (i + 1) * 1000000000 ^ 114 < 1000000000 ^ 115 := by
    rw [Nat.pow_succ 1000000000 114, Nat.mul_comm]
    exact Nat.mul_lt_mul_of_pos_left (by omega) (Nat.pow_pos (by omega))
  refine ⟨max_pow (k := 115) ?_ (by omega), ?_⟩ <;> omega
theorem sum_take {ns : List Int} {i : Nat} (h : i < ns.length) : (ns.take (i + 1)).sum = (ns.take i).sum + ns[i] := by
  rw [List.take_succ_eq_append_getElem h, List.sum_append]; simp

set_option maxRecDepth 100000 in
set_option maxHeartbeats 2000000 in
theorem sum_c (b off c : Nat) (ns : List Int) (w : World) (hls : ns.length ≤ 1000000) (hlen : ∀ n ∈ ns, n.natAbs < big) (hR : RS w b off (ns.map Lib.itoa)) (hb : b < w.heap.size) (hg : Good w) :
    Calls Tryz.prog 54 #[.slice (some ⟨b, off, none⟩) ns.length c] w (Ret w (ans2 (kept ns.sum))) := by
  have HR := Lib.hid hR; have HL := Lib.hid hlen; have HG := Lib.hid hg
  clear hR hlen hg
  obtain ⟨n, hn⟩ : ∃ n, ns.length = n := ⟨_, rfl⟩
  rw [hn] at hls ⊢
  have HN := Lib.hid hn
  clear hn
  go_enter Tryz.func54, Tryz.ntmps54
  go_wp2
  go_loopw [11] (fun si wr => ∃ (i : Nat) (s : Bool) (X : Nat), si = .int .i64 i ∧ i ≤ n ∧ CW wr w.heap.size s X ∧ Hid (sg s X = (ns.take i).sum) ∧ Hid (X ≤ i * 1000000000 ^ 114) ∧ Below w.heap.size w wr) (fun si _ => n - (intOf si).toNat)
  case atStart => exact ⟨0, false, 0, rfl, Nat.zero_le _, CW.zero w, rfl, Nat.zero_le _, (Below.refl _ _).alloc (Nat.le_refl _) _⟩
  case round =>
    obtain ⟨i, s, X, rfl, hi, hC, hS, hX, hB⟩ := hrel
    by_cases hlt : i < n
    · have hil : i < ns.length := by rw [HN.out]; exact hlt
      have hc := (HR.out.later hB hb) i (by rw [List.length_map]; exact hil)
      rw [List.getElem_map] at hc
      have hbg := HL.out ns[i] (List.getElem_mem hil)
      have hst := sum_take hil
      obtain ⟨m, hm⟩ : ∃ m, ns[i] = m := ⟨_, rfl⟩
      rw [hm] at hc hbg hst
      obtain ⟨hr1, hr2⟩ := sum_room (by omega) hX.out (big_words hbg)
      have hrd := Lib.hid (fun W => read_c m W (by have := lng_big hbg; omega))
      have HST := Lib.hid hst; have HR1 := Lib.hid hr1; have HR2 := Lib.hid hr2; have HC := Lib.hid hC
      have hgl := hC.lt
      clear hm hbg hst hr1 hr2 hC
      go_wp2_with fail
      refine (hrd.out _).mono ?_
      rintro e w1 ⟨g, rfl, hg, hCg, hb1⟩
      have hC1 := HC.out.later hb1 hgl
      have HCG := Lib.hid hCg; have HC1 := Lib.hid hC1
      clear hCg hC1
      go_wp2_with fail
      refine (plus_c w.heap.size g s (decide (m < 0)) X m.natAbs _ HC1.out HCG.out (by omega) HR1.out).mono ?_
      rintro e w2 ⟨rfl, hC2, hG2⟩
      have hB2 := (hB.trans (hb1.mono hB.size)).trans (gb_below hG2 (Nat.le_refl _) (Nat.le_trans hB.size hb1.size))
      go_wp2
      go_roundw
      case rel =>
        refine ⟨i + 1, _, _, by go_num, by omega, hC2, ?_, Nat.le_trans (addS_le _ _ _ _) HR2.out, hB2⟩
        show _ = _
        rw [sg_add, sg_int, hS.out, HST.out]
      case measure => simp [intOf]; omega
    · obtain rfl : i = n := by omega
      have hsum : sg s X = ns.sum := by rw [hS.out, List.take_of_length_le (by rw [HN.out]; exact Nat.le_refl _)]
      have hlc := limited_c w.heap.size s X _ hC (HG.out.later hB)
      rw [hsum] at hlc
      have HLC := Lib.hid hlc
      clear hlc hsum
      go_wp2_with fail
      refine HLC.out.mono ?_
      rintro e w1 ⟨rfl, hb1⟩
      go_wp2
      go_ret2
      exact ⟨rfl, hB.trans (hb1.mono hB.size)⟩
end Go.Proofs.Wk
