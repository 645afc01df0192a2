/- THE REFERENCE's RATIONAL NUMBERS: parts, the check, lowest terms. -/
import Derived.Test.YtdpjkfkmlaphhaaGreatDoorHA
import Derived.Test.YtdpjkfkmlaphhaaGreatDoorGN
namespace Go.Proofs.Wk
open Go.RowKit Mt

theorem rnum_snoc {l : Txt} {i : Nat} (h : i < l.length) (hn : ∀ c ∈ l.take i, c ≠ 47) (hi : l[i] = 47) : rhas l = true ∧ (rnum l).length = i := by
  have e : l = l.take i ++ 47 :: l.drop (i + 1) := by
    conv => lhs; rw [← List.take_append_drop i l, List.drop_eq_getElem_cons h, hi]
  constructor
  · rw [e]; exact rhas_yes _ _
  · unfold rnum
    rw [e, takeWhile_no hn]
    simp; omega
theorem take_no {l : Txt} {i : Nat} (h : i < l.length) (hn : ∀ c ∈ l.take i, c ≠ 47) (hi : l[i] ≠ 47) : ∀ c ∈ l.take (i + 1), c ≠ 47 := by
  intro c hc
  rw [List.take_succ_eq_append_getElem h] at hc
  rcases List.mem_append.1 hc with h1 | h1
  · exact hn c h1
  · rw [List.mem_singleton.1 h1]; exact hi
def slashI (l : Txt) : Int := if rhas l then ((rnum l).length : Int) else -1
set_option maxRecDepth 100000 in
theorem slash_c (l : Txt) (w : World) (hl : l.length ≤ 140737488355328) : Calls Tryz.prog 171 #[.string ⟨l.toArray⟩] w (Pur w (.int .i64 (slashI l))) := by
  go_enter Tryz.func171, Tryz.ntmps171
  go_wp2_with fail
  go_loop [3] (fun si => ∃ i : Nat, si = .int .i64 (i : Int) ∧ i ≤ l.length ∧ Hid (∀ c ∈ l.take i, c ≠ 47)) (fun si => l.length - (intOf si).toNat)
  case atStart => exact ⟨0, rfl, Nat.zero_le _, by intro c hc; simp at hc⟩
  case round =>
    obtain ⟨i, rfl, hi, hA⟩ := hrel
    by_cases hlt : i < l.length
    · by_cases hc : l[i] = 47
      · obtain ⟨h1, h2⟩ := rnum_snoc hlt hA.out hc
        have HS := Lib.hid (show slashI l = (i : Int) by unfold slashI; rw [if_pos h1, h2])
        have hb := u8_eq_yes (d := 47) (k := 47) rfl hc
        clear h1 h2 hc
        go_wp2
        go_ret
        rw [HS.out]
        exact ⟨rfl, rfl⟩
      · have HT := Lib.hid (take_no hlt hA.out hc)
        have hb := u8_eq_no (d := 47) (k := 47) rfl hc
        clear hc
        go_wp2
        go_round
        case rel => exact ⟨i + 1, by go_num, by omega, HT⟩
        case measure => simp [intOf]; omega
    · obtain rfl : i = l.length := by omega
      have HS := Lib.hid (show slashI l = -1 by
        unfold slashI
        rw [rhas_no (by have := hA.out; rwa [List.take_length] at this)]; rfl)
      go_wp2
      go_ret
      rw [HS.out]
      exact ⟨rfl, rfl⟩
theorem parts_of (a b : Txt) : (a ++ 47 :: b).drop (a.length + 1) = b ∧ (a ++ 47 :: b).take a.length = a ∧ a.length < (a ++ 47 :: b).length := by
  refine ⟨?_, List.take_left, by simp⟩
  rw [show a ++ 47 :: b = (a ++ [47]) ++ b by simp, show a.length + 1 = (a ++ [47]).length by simp]
  exact List.drop_left
theorem rden_drop {l : Txt} (h : rhas l = true) : l.drop ((rnum l).length + 1) = rden l ∧ l.take (rnum l).length = rnum l ∧ (rnum l).length < l.length := by
  rcases split_eq l with ⟨hs, e⟩ | ⟨hs, e⟩
  · rw [h] at hs; cases hs
  · have := parts_of (rnum l) (rden l)
    rwa [← e] at this
theorem rnum_no {l : Txt} (h : rhas l = false) : rnum l = l ∧ rden l = [49] := by
  rcases split_eq l with ⟨hs, e⟩ | ⟨hs, e⟩
  · exact ⟨e.symm, by unfold rden; rw [h]; rfl⟩
  · rw [h] at hs; cases hs
set_option maxRecDepth 100000 in
theorem Split_c (l : Txt) (w : World) (hl : l.length ≤ 140737488355328) : Calls Tryz.prog 123 #[.string ⟨l.toArray⟩] w (Ret w (.tuple #[.string ⟨(rnum l).toArray⟩, .string ⟨(rden l).toArray⟩])) := by
  have hs := slash_c l w hl
  cases h : rhas l with
  | false =>
    rw [show slashI l = -1 by unfold slashI; rw [h]; rfl] at hs
    obtain ⟨e1, e2⟩ := rnum_no h
    rw [e1, e2]
    have HS := Lib.hid hs
    clear hs h e1 e2
    go_enter Tryz.func123, Tryz.ntmps123
    go_wp2_with fail
    ((with_reducible refine (HS.out).mono ?_); rintro e w' ⟨rfl, rfl⟩)
    go_wp2
    go_ret2
    exact ⟨rfl, Below.refl _ _⟩
  | true =>
    rw [show slashI l = ((rnum l).length : Int) by unfold slashI; rw [h]; rfl] at hs
    obtain ⟨e1, e2, e3⟩ := rden_drop h
    obtain ⟨n, hn⟩ : ∃ n, (rnum l).length = n := ⟨_, rfl⟩
    rw [hn] at hs e1 e2 e3
    have HS := Lib.hid hs; have E1 := Lib.hid e1; have E2 := Lib.hid e2
    clear hs h e1 e2 hn
    go_enter Tryz.func123, Tryz.ntmps123
    go_wp2_with fail
    ((with_reducible refine (HS.out).mono ?_); rintro e w' ⟨rfl, rfl⟩)
    have g1 : (n : Int) ≤ (l.length : Int) := by omega
    have g2 : (0 : Int) ≤ (n : Int) + 1 := by omega
    have g3 : (n : Int) + 1 ≤ (l.length : Int) := by omega
    have g4 : IntKind.i64.wrap ((n : Int) + 1) = (n : Int) + 1 := IntWalk.i64_in _ (by omega)
    have g5 : ((n : Int) + 1).toNat = n + 1 := by omega
    go_wp2_with fail
    go_region
    all_goals (go_wp2; go_ret2)
    all_goals
      refine ⟨?_, (Below.refl _ _).drew⟩
      rw [← E1.out, ← E2.out]
      have e6 : (l.drop (n + 1)).take (l.length - (n + 1)) = l.drop (n + 1) := List.take_of_length_le (by simp)
      conv => rhs; rw [← e6]
      rfl
end Go.Proofs.Wk
/- THE REFERENCE's RATIONAL NUMBERS: lowest terms, the check. -/
namespace Go.Proofs.Wk
open Go.RowKit Mt

theorem lng_low {m n : Int} {k : Nat} (hn : lng n ≤ k) : lng (Int.gcd m n) ≤ k ∨ n = 0 := by
  by_cases h : n = 0
  · exact .inr h
  · refine .inl (Nat.le_trans (lng_mono ?_) hn)
    have h1 : Int.gcd m n ∣ n.natAbs := by rw [Int.gcd]; exact Nat.gcd_dvd_right _ _
    have := Nat.le_of_dvd (by omega) h1
    simpa using this
theorem ljoin {m n : Int} (h : n ≠ 0) : rtoa (Rat.divInt m n) = joinT (m.fdiv (lowG m n)) (n.fdiv (lowG m n)) := by
  obtain ⟨-, e1, e2⟩ := low_spec (m := m) h
  rw [e1, e2, join_rtoa]
set_option maxRecDepth 100000 in
theorem Lowest_c (m n : Int) (w : World) (hm : lng m ≤ 4000) (hn : lng n ≤ 4000) (h0 : n ≠ 0) :
    Calls Tryz.prog 72 #[.string ⟨(Lib.itoa m).toArray⟩, .string ⟨(Lib.itoa n).toArray⟩] w (Ret w (.string ⟨(rtoa (Rat.divInt m n)).toArray⟩)) := by
  have hB0 := Below.refl w.heap.size w
  have HS := Lib.hid (fun W => Shared_c m n W hm hn)
  have HB := Lib.hid (fun W => Below_i n W)
  have hgl : lng (Int.gcd m n) ≤ 4000 := (lng_low (m := m) hn).resolve_right h0
  have HT := Lib.hid (fun W => Turned_c (Int.gcd m n) W (by unfold lng at hgl; omega))
  obtain ⟨g0, e1, e2⟩ := low_spec (m := m) h0
  have hg : lng (lowG m n) ≤ 4000 := by
    unfold lowG; split
    · rw [lng_neg]; exact hgl
    · exact hgl
  have HP := Lib.hid (fun W => Parted_c m (lowG m n) W hm hg g0)
  have HQ := Lib.hid (fun W => Parted_c n (lowG m n) W hn hg g0)
  rw [ljoin h0]
  obtain ⟨x, hx⟩ : ∃ x, m.fdiv (lowG m n) = x := ⟨_, rfl⟩
  obtain ⟨y, hy⟩ : ∃ y, n.fdiv (lowG m n) = y := ⟨_, rfl⟩
  have lx : (Lib.itoa x).length ≤ 4001 := by
    have := lng_itoa x; have h2 := lng_mono (m := x) (n := m) (by rw [← hx]; exact fdiv_le g0); omega
  have ly : (Lib.itoa y).length ≤ 4001 := by
    have := lng_itoa y; have h2 := lng_mono (m := y) (n := n) (by rw [← hy]; exact fdiv_le g0); omega
  rw [hx] at HP; rw [hy] at HQ; rw [hx, hy]
  have hone := itoa_is_one (n := y)
  clear hx hy e1 e2 hgl hg g0 hm hn h0
  by_cases hneg : n < 0
  · rw [decide_eq_true hneg] at HB
    rw [show lowG m n = -(Int.gcd m n : Int) by unfold lowG; rw [if_pos hneg]] at HP HQ
    generalize (Int.gcd m n : Int) = g at *
    generalize m.fmod (-g) = r1 at *
    generalize n.fmod (-g) = r2 at *
    clear hneg
    by_cases h1 : y = 1
    · rw [decide_eq_true h1] at hone
      rw [show joinT x y = Lib.itoa x by unfold joinT; rw [if_pos h1]]
      clear h1
      generalize Lib.itoa y = ty at *
      generalize Lib.itoa x = tx at *
      go_enter Tryz.func72, Tryz.ntmps72
      go_wp2_with fail
      ((with_reducible refine (HS.out _).mono ?_); rintro e w1 ⟨rfl, hb1⟩)
      have hB1 := hB0.trans (hb1.mono hB0.size); clear hb1
      go_wp2_with fail
      ((with_reducible refine (HB.out _).mono ?_); rintro e w' ⟨rfl, rfl⟩)
      go_wp2_with fail
      ((with_reducible refine (HT.out _).mono ?_); rintro e w' ⟨rfl, rfl⟩)
      go_wp2_with fail
      ((with_reducible refine (HP.out _).mono ?_); rintro e w2 ⟨rfl, hb2⟩)
      have hB2 := hB1.trans (hb2.mono hB1.size); clear hb2
      go_wp2_with fail
      ((with_reducible refine (HQ.out _).mono ?_); rintro e w3 ⟨rfl, hb3⟩)
      have hB3 := hB2.trans (hb3.mono hB2.size); clear hb3
      go_wp2
      go_ret
      exact ⟨rfl, hB3⟩
    · rw [decide_eq_false h1] at hone
      rw [show joinT x y = Lib.itoa x ++ 47 :: Lib.itoa y by unfold joinT; rw [if_neg h1]]
      clear h1
      generalize Lib.itoa y = ty at *
      generalize Lib.itoa x = tx at *
      go_enter Tryz.func72, Tryz.ntmps72
      go_wp2_with fail
      ((with_reducible refine (HS.out _).mono ?_); rintro e w1 ⟨rfl, hb1⟩)
      have hB1 := hB0.trans (hb1.mono hB0.size); clear hb1
      go_wp2_with fail
      ((with_reducible refine (HB.out _).mono ?_); rintro e w' ⟨rfl, rfl⟩)
      go_wp2_with fail
      ((with_reducible refine (HT.out _).mono ?_); rintro e w' ⟨rfl, rfl⟩)
      go_wp2_with fail
      ((with_reducible refine (HP.out _).mono ?_); rintro e w2 ⟨rfl, hb2⟩)
      have hB2 := hB1.trans (hb2.mono hB1.size); clear hb2
      go_wp2_with fail
      ((with_reducible refine (HQ.out _).mono ?_); rintro e w3 ⟨rfl, hb3⟩)
      have hB3 := hB2.trans (hb3.mono hB2.size); clear hb3
      go_wp2
      go_ret
      exact ⟨ret_str (by simp), hB3⟩
  · rw [decide_eq_false hneg] at HB
    rw [show lowG m n = (Int.gcd m n : Int) by unfold lowG; rw [if_neg hneg]] at HP HQ
    generalize (Int.gcd m n : Int) = g at *
    generalize m.fmod g = r1 at *
    generalize n.fmod g = r2 at *
    clear hneg
    by_cases h1 : y = 1
    · rw [decide_eq_true h1] at hone
      rw [show joinT x y = Lib.itoa x by unfold joinT; rw [if_pos h1]]
      clear h1
      generalize Lib.itoa y = ty at *
      generalize Lib.itoa x = tx at *
      go_enter Tryz.func72, Tryz.ntmps72
      go_wp2_with fail
      ((with_reducible refine (HS.out _).mono ?_); rintro e w1 ⟨rfl, hb1⟩)
      have hB1 := hB0.trans (hb1.mono hB0.size); clear hb1
      go_wp2_with fail
      ((with_reducible refine (HB.out _).mono ?_); rintro e w' ⟨rfl, rfl⟩)
      go_wp2_with fail
      ((with_reducible refine (HP.out _).mono ?_); rintro e w2 ⟨rfl, hb2⟩)
      have hB2 := hB1.trans (hb2.mono hB1.size); clear hb2
      go_wp2_with fail
      ((with_reducible refine (HQ.out _).mono ?_); rintro e w3 ⟨rfl, hb3⟩)
      have hB3 := hB2.trans (hb3.mono hB2.size); clear hb3
      go_wp2
      go_ret
      exact ⟨rfl, hB3⟩
    · rw [decide_eq_false h1] at hone
      rw [show joinT x y = Lib.itoa x ++ 47 :: Lib.itoa y by unfold joinT; rw [if_neg h1]]
      clear h1
      generalize Lib.itoa y = ty at *
      generalize Lib.itoa x = tx at *
      go_enter Tryz.func72, Tryz.ntmps72
      go_wp2_with fail
      ((with_reducible refine (HS.out _).mono ?_); rintro e w1 ⟨rfl, hb1⟩)
      have hB1 := hB0.trans (hb1.mono hB0.size); clear hb1
      go_wp2_with fail
      ((with_reducible refine (HB.out _).mono ?_); rintro e w' ⟨rfl, rfl⟩)
      go_wp2_with fail
      ((with_reducible refine (HP.out _).mono ?_); rintro e w2 ⟨rfl, hb2⟩)
      have hB2 := hB1.trans (hb2.mono hB1.size); clear hb2
      go_wp2_with fail
      ((with_reducible refine (HQ.out _).mono ?_); rintro e w3 ⟨rfl, hb3⟩)
      have hB3 := hB2.trans (hb3.mono hB2.size); clear hb3
      go_wp2
      go_ret
      exact ⟨ret_str (by simp), hB3⟩

theorem chk_three (l : Txt) : chk l = 3 ∨ chk l = 11 ∨ chk l = 0 := by
  rcases chk_cases l with ⟨-, h⟩ | ⟨-, -, h⟩ | ⟨-, -, h⟩
  · exact .inl h
  · exact .inr (.inl h)
  · exact .inr (.inr h)
theorem rpart_le (l : Txt) {k : Nat} (h : l.length ≤ k) (hk : 1 ≤ k) : (rnum l).length ≤ k ∧ (rden l).length ≤ k := by
  rcases split_eq l with ⟨hs, e⟩ | ⟨hs, e⟩
  · rw [← e]
    refine ⟨h, ?_⟩
    unfold rden; rw [hs]; exact hk
  · have e2 : l.length = (rnum l).length + ((rden l).length + 1) := by
      conv => lhs; rw [e]
      simp
    omega
theorem big_lng {n : Int} (h : n.natAbs < big) {k : Nat} (hk : 1024 ≤ k) : lng n ≤ k := by have := lng_big h; omega
theorem lng_one : lng (1 : Int) ≤ 1 := (lng_le 1 (k := 1) (by omega)).2 (by decide)
set_option maxRecDepth 100000 in
theorem rqCheck_c (l : Txt) (w : World) (hl : l.length ≤ 140737488355328) : Calls Tryz.prog 136 #[.string ⟨l.toArray⟩] w (Ret w (.int .i64 (rchk l))) := by
  have hB0 := Below.refl w.heap.size w
  obtain ⟨ln, ld⟩ := rpart_le l hl (by omega)
  have HSp := Lib.hid (fun W => Split_c l W hl)
  have HN := Lib.hid (fun W => Check_c (rnum l) W ln)
  have HD := Lib.hid (fun W => Check_c (rden l) W ld)
  have HSl := Lib.hid (fun W => slash_c l W hl)
  clear ln ld hl
  rcases chk_three (rnum l) with h1 | h1 | h1 <;> rw [h1] at HN
  · rw [show rchk l = 3 by unfold rchk; rw [if_pos (.inl h1)]]
    generalize rnum l = A at *
    generalize rden l = B at *
    clear h1
    go_enter Tryz.func136, Tryz.ntmps136
    go_wp2_with fail
    ((with_reducible refine (HSp.out _).mono ?_); rintro e w1 ⟨rfl, hb1⟩)
    have hB1 := hB0.trans (hb1.mono hB0.size); clear hb1
    go_wp2_with fail
    ((with_reducible refine (HN.out _).mono ?_); rintro e w' ⟨rfl, rfl⟩)
    go_wp2
    go_ret
    exact ⟨rfl, hB1⟩
  · rcases chk_three (rden l) with h2 | h2 | h2 <;> rw [h2] at HD
    · rw [show rchk l = 3 by unfold rchk; rw [if_pos (.inr h2)]]
      generalize rnum l = A at *
      generalize rden l = B at *
      clear h1 h2
      go_enter Tryz.func136, Tryz.ntmps136
      go_wp2_with fail
      ((with_reducible refine (HSp.out _).mono ?_); rintro e w1 ⟨rfl, hb1⟩)
      have hB1 := hB0.trans (hb1.mono hB0.size); clear hb1
      go_wp2_with fail
      ((with_reducible refine (HN.out _).mono ?_); rintro e w' ⟨rfl, rfl⟩)
      go_wp2_with fail
      ((with_reducible refine (HD.out _).mono ?_); rintro e w' ⟨rfl, rfl⟩)
      go_wp2
      go_ret
      exact ⟨rfl, hB1⟩
    · rw [show rchk l = 11 by unfold rchk; rw [if_neg (by omega), if_pos (by omega)]]
      generalize rnum l = A at *
      generalize rden l = B at *
      clear h1 h2
      go_enter Tryz.func136, Tryz.ntmps136
      go_wp2_with fail
      ((with_reducible refine (HSp.out _).mono ?_); rintro e w1 ⟨rfl, hb1⟩)
      have hB1 := hB0.trans (hb1.mono hB0.size); clear hb1
      go_wp2_with fail
      ((with_reducible refine (HN.out _).mono ?_); rintro e w' ⟨rfl, rfl⟩)
      go_wp2_with fail
      ((with_reducible refine (HD.out _).mono ?_); rintro e w' ⟨rfl, rfl⟩)
      go_wp2_with fail
      ((with_reducible refine (HN.out _).mono ?_); rintro e w' ⟨rfl, rfl⟩)
      go_wp2
      go_ret
      exact ⟨rfl, hB1⟩
    · rw [show rchk l = 11 by unfold rchk; rw [if_neg (by omega), if_pos (by omega)]]
      generalize rnum l = A at *
      generalize rden l = B at *
      clear h1 h2
      go_enter Tryz.func136, Tryz.ntmps136
      go_wp2_with fail
      ((with_reducible refine (HSp.out _).mono ?_); rintro e w1 ⟨rfl, hb1⟩)
      have hB1 := hB0.trans (hb1.mono hB0.size); clear hb1
      go_wp2_with fail
      ((with_reducible refine (HN.out _).mono ?_); rintro e w' ⟨rfl, rfl⟩)
      go_wp2_with fail
      ((with_reducible refine (HD.out _).mono ?_); rintro e w' ⟨rfl, rfl⟩)
      go_wp2_with fail
      ((with_reducible refine (HN.out _).mono ?_); rintro e w' ⟨rfl, rfl⟩)
      go_wp2
      go_ret
      exact ⟨rfl, hB1⟩
  · rcases chk_three (rden l) with h2 | h2 | h2 <;> rw [h2] at HD
    · rw [show rchk l = 3 by unfold rchk; rw [if_pos (.inr h2)]]
      generalize rnum l = A at *
      generalize rden l = B at *
      clear h1 h2
      go_enter Tryz.func136, Tryz.ntmps136
      go_wp2_with fail
      ((with_reducible refine (HSp.out _).mono ?_); rintro e w1 ⟨rfl, hb1⟩)
      have hB1 := hB0.trans (hb1.mono hB0.size); clear hb1
      go_wp2_with fail
      ((with_reducible refine (HN.out _).mono ?_); rintro e w' ⟨rfl, rfl⟩)
      go_wp2_with fail
      ((with_reducible refine (HD.out _).mono ?_); rintro e w' ⟨rfl, rfl⟩)
      go_wp2
      go_ret
      exact ⟨rfl, hB1⟩
    · rw [show rchk l = 11 by unfold rchk; rw [if_neg (by omega), if_pos (by omega)]]
      generalize rnum l = A at *
      generalize rden l = B at *
      clear h1 h2
      go_enter Tryz.func136, Tryz.ntmps136
      go_wp2_with fail
      ((with_reducible refine (HSp.out _).mono ?_); rintro e w1 ⟨rfl, hb1⟩)
      have hB1 := hB0.trans (hb1.mono hB0.size); clear hb1
      go_wp2_with fail
      ((with_reducible refine (HN.out _).mono ?_); rintro e w' ⟨rfl, rfl⟩)
      go_wp2_with fail
      ((with_reducible refine (HD.out _).mono ?_); rintro e w' ⟨rfl, rfl⟩)
      go_wp2_with fail
      ((with_reducible refine (HN.out _).mono ?_); rintro e w' ⟨rfl, rfl⟩)
      go_wp2_with fail
      ((with_reducible refine (HD.out _).mono ?_); rintro e w' ⟨rfl, rfl⟩)
      go_wp2
      go_ret
      exact ⟨rfl, hB1⟩
    · obtain ⟨en, bn⟩ := ok_text h1
      obtain ⟨ed, bd⟩ := ok_text h2
      cases hs : rhas l with
      | false =>
        rw [show rchk l = 0 by unfold rchk; rw [if_neg (by omega), if_neg (by omega), if_neg (by rw [hs]; simp)]]
        rw [show slashI l = -1 by unfold slashI; rw [hs]; rfl] at HSl
        generalize rnum l = A at *
        generalize rden l = B at *
        clear h1 h2 hs en ed bn bd
        go_enter Tryz.func136, Tryz.ntmps136
        go_wp2_with fail
        ((with_reducible refine (HSp.out _).mono ?_); rintro e w1 ⟨rfl, hb1⟩)
        have hB1 := hB0.trans (hb1.mono hB0.size); clear hb1
        go_wp2_with fail
        ((with_reducible refine (HN.out _).mono ?_); rintro e w' ⟨rfl, rfl⟩)
        go_wp2_with fail
        ((with_reducible refine (HD.out _).mono ?_); rintro e w' ⟨rfl, rfl⟩)
        go_wp2_with fail
        ((with_reducible refine (HN.out _).mono ?_); rintro e w' ⟨rfl, rfl⟩)
        go_wp2_with fail
        ((with_reducible refine (HD.out _).mono ?_); rintro e w' ⟨rfl, rfl⟩)
        go_wp2_with fail
        ((with_reducible refine (HSl.out _).mono ?_); rintro e w' ⟨rfl, rfl⟩)
        go_wp2
        go_ret
        exact ⟨rfl, hB1⟩
      | true =>
        rw [show slashI l = ((rnum l).length : Int) by unfold slashI; rw [hs]; rfl] at HSl
        have ho := fun W => Order_c (val (rden l)) 1 W (big_lng bd (by omega)) (Nat.le_trans lng_one (by omega))
        have hg := fun W => Shared_c (val (rnum l)) (val (rden l)) W (big_lng bn (by omega)) (big_lng bd (by omega))
        rw [ed, itoa_one] at ho
        rw [en, ed] at hg
        have HO := Lib.hid ho; have HG := Lib.hid hg
        have e := show rchk l = if val (rden l) ≤ 1 ∨ Int.gcd (val (rnum l)) (val (rden l)) ≠ 1 then 3 else 0 by
          unfold rchk; rw [if_neg (by omega), if_neg (by omega)]; simp [hs]
        rw [e]
        generalize (rnum l).length = ix at *
        clear e ho hg bn bd hs h1 h2
        generalize val (rnum l) = m at *
        generalize val (rden l) = d at *
        generalize rnum l = A at *
        generalize rden l = B at *
        by_cases h3 : d ≤ 1
        · rw [if_pos (.inl h3)]
          have hc : cmp d 1 = -1 ∨ cmp d 1 = 0 := by have := cmp_spec d 1; omega
          clear h3
          rcases hc with hc | hc <;> rw [hc] at HO <;> clear hc
          all_goals
            go_enter Tryz.func136, Tryz.ntmps136
            go_wp2_with fail
            ((with_reducible refine (HSp.out _).mono ?_); rintro e w1 ⟨rfl, hb1⟩)
            have hB1 := hB0.trans (hb1.mono hB0.size); clear hb1
            go_wp2_with fail
            ((with_reducible refine (HN.out _).mono ?_); rintro e w' ⟨rfl, rfl⟩)
            go_wp2_with fail
            ((with_reducible refine (HD.out _).mono ?_); rintro e w' ⟨rfl, rfl⟩)
            go_wp2_with fail
            ((with_reducible refine (HN.out _).mono ?_); rintro e w' ⟨rfl, rfl⟩)
            go_wp2_with fail
            ((with_reducible refine (HD.out _).mono ?_); rintro e w' ⟨rfl, rfl⟩)
            go_wp2_with fail
            ((with_reducible refine (HSl.out _).mono ?_); rintro e w' ⟨rfl, rfl⟩)
            go_wp2_with fail
            ((with_reducible refine (HO.out _).mono ?_); rintro e w2 ⟨rfl, hb2⟩)
            have hB2 := hB1.trans (hb2.mono hB1.size); clear hb2
            go_wp2
            go_ret
            exact ⟨rfl, hB2⟩
        · have hc : cmp d 1 = 1 := by have := cmp_spec d 1; omega
          rw [hc] at HO
          have h4 := itoa_is_one (n := (Int.gcd m d : Int))
          by_cases h5 : Int.gcd m d = 1
          · rw [if_neg (by rintro (h | h); exact h3 h; exact h h5)]
            rw [decide_eq_true (by omega)] at h4
            generalize (Int.gcd m d : Int) = g at *
            generalize Lib.itoa g = tg at *
            clear h3 hc h5
            go_enter Tryz.func136, Tryz.ntmps136
            go_wp2_with fail
            ((with_reducible refine (HSp.out _).mono ?_); rintro e w1 ⟨rfl, hb1⟩)
            have hB1 := hB0.trans (hb1.mono hB0.size); clear hb1
            go_wp2_with fail
            ((with_reducible refine (HN.out _).mono ?_); rintro e w' ⟨rfl, rfl⟩)
            go_wp2_with fail
            ((with_reducible refine (HD.out _).mono ?_); rintro e w' ⟨rfl, rfl⟩)
            go_wp2_with fail
            ((with_reducible refine (HN.out _).mono ?_); rintro e w' ⟨rfl, rfl⟩)
            go_wp2_with fail
            ((with_reducible refine (HD.out _).mono ?_); rintro e w' ⟨rfl, rfl⟩)
            go_wp2_with fail
            ((with_reducible refine (HSl.out _).mono ?_); rintro e w' ⟨rfl, rfl⟩)
            go_wp2_with fail
            ((with_reducible refine (HO.out _).mono ?_); rintro e w2 ⟨rfl, hb2⟩)
            have hB2 := hB1.trans (hb2.mono hB1.size); clear hb2
            go_wp2_with fail
            ((with_reducible refine (HG.out _).mono ?_); rintro e w3 ⟨rfl, hb3⟩)
            have hB3 := hB2.trans (hb3.mono hB2.size); clear hb3
            go_wp2
            go_ret
            exact ⟨rfl, hB3⟩
          · rw [if_pos (.inr h5)]
            rw [decide_eq_false (by omega)] at h4
            generalize (Int.gcd m d : Int) = g at *
            generalize Lib.itoa g = tg at *
            clear h3 hc h5
            go_enter Tryz.func136, Tryz.ntmps136
            go_wp2_with fail
            ((with_reducible refine (HSp.out _).mono ?_); rintro e w1 ⟨rfl, hb1⟩)
            have hB1 := hB0.trans (hb1.mono hB0.size); clear hb1
            go_wp2_with fail
            ((with_reducible refine (HN.out _).mono ?_); rintro e w' ⟨rfl, rfl⟩)
            go_wp2_with fail
            ((with_reducible refine (HD.out _).mono ?_); rintro e w' ⟨rfl, rfl⟩)
            go_wp2_with fail
            ((with_reducible refine (HN.out _).mono ?_); rintro e w' ⟨rfl, rfl⟩)
            go_wp2_with fail
            ((with_reducible refine (HD.out _).mono ?_); rintro e w' ⟨rfl, rfl⟩)
            go_wp2_with fail
            ((with_reducible refine (HSl.out _).mono ?_); rintro e w' ⟨rfl, rfl⟩)
            go_wp2_with fail
            ((with_reducible refine (HO.out _).mono ?_); rintro e w2 ⟨rfl, hb2⟩)
            have hB2 := hB1.trans (hb2.mono hB1.size); clear hb2
            go_wp2_with fail
            ((with_reducible refine (HG.out _).mono ?_); rintro e w3 ⟨rfl, hb3⟩)
            have hB3 := hB2.trans (hb3.mono hB2.size); clear hb3
            go_wp2
            go_ret
            exact ⟨rfl, hB3⟩
end Go.Proofs.Wk
