/- THE REFERENCE's RATIONAL NUMBERS: parts, the check, lowest terms. -/
import Derived.Test.YtffmhlaenfecgaaGreatDoorHA
import Derived.Test.YtffmhlaenfecgaaGreatDoorGN
namespace Go.Proofs.Wk
open Go.RowKit Mt

theorem rnum_snoc {l : Txt} {i : Nat} (h : i < l.length) (hn : ∀ c ∈ l.take i, c ≠ 47) (hi : l[i] = 47) : rhas l = true ∧ (rnum l).length = i := by
  have e : l = l.take i ++ 47 :: l.drop (i + 1) := by
    conv => lhs; rw [← List.take_append_drop i l, List.drop_eq_getElem_cons h, hi]
  constructor
  · rw [e]; exact rhas_yes _ _
  · unfold rnum
    rw [e, takeWhile_no hn]
    simp; omega
theorem take_no {l : Txt} {i : Nat} (h : i < l.length) (hn : ∀ c ∈ l.take i, c ≠ 47) (hi : l[i] ≠ 47) : ∀ c ∈ l.take (i + 1), c ≠ 47 := by
  intro c hc
  rw [List.take_succ_eq_append_getElem h] at hc
  rcases List.mem_append.1 hc with h1 | h1
  · exact hn c h1
  · rw [List.mem_singleton.1 h1]; exact hi
def slashI (l : Txt) : Int := if rhas l then ((rnum l).length : Int) else -1
theorem parts_of (a b : Txt) : (a ++ 47 :: b).drop (a.length + 1) = b ∧ (a ++ 47 :: b).take a.length = a ∧ a.length < (a ++ 47 :: b).length := by
  refine ⟨?_, List.take_left, by simp⟩
  rw [show a ++ 47 :: b = (a ++ [47]) ++ b by simp, show a.length + 1 = (a ++ [47]).length by simp]
  exact List.drop_left
theorem rden_drop {l : Txt} (h : rhas l = true) : l.drop ((rnum l).length + 1) = rden l ∧ l.take (rnum l).length = rnum l ∧ (rnum l).length < l.length := by
  rcases split_eq l with ⟨hs, e⟩ | ⟨hs, e⟩
  · rw [h] at hs; cases hs
  · have := parts_of (rnum l) (rden l)
    rwa [← e] at this
theorem rnum_no {l : Txt} (h : rhas l = false) : rnum l = l ∧ rden l = [49] := by
  rcases split_eq l with ⟨hs, e⟩ | ⟨hs, e⟩
  · exact ⟨e.symm, by unfold rden; rw [h]; rfl⟩
  · rw [h] at hs; cases hs
end Go.Proofs.Wk
/- THE REFERENCE's RATIONAL NUMBERS: lowest terms, the check. -/
namespace Go.Proofs.Wk
open Go.RowKit Mt

theorem lng_low {m n : Int} {k : Nat} (hn : lng n ≤ k) : lng (Int.gcd m n) ≤ k ∨ n = 0 := by
  by_cases h : n = 0
  · exact .inr h
  · refine .inl (Nat.le_trans (lng_mono ?_) hn)
    have h1 : Int.gcd m n ∣ n.natAbs := by rw [Int.gcd]; exact Nat.gcd_dvd_right _ _
    have := Nat.le_of_dvd (by omega) h1
    simpa using this
theorem ljoin {m n : Int} (h : n ≠ 0) : rtoa (Rat.divInt m n) = joinT (m.fdiv (lowG m n)) (n.fdiv (lowG m n)) := by
  obtain ⟨-, e1, e2⟩ := low_spec (m := m) h
  rw [e1, e2, join_rtoa]
set_option maxRecDepth 100000 in
theorem Lowest_c (m n : Int) (w : World) (hm : lng m ≤ 4000) (hn : lng n ≤ 4000) (h0 : n ≠ 0) :
    Calls Tryz.prog 71 #[.string ⟨(Lib.itoa m).toArray⟩, .string ⟨(Lib.itoa n).toArray⟩] w (Ret w (.string ⟨(rtoa (Rat.divInt m n)).toArray⟩)) := by
  have hB0 := Below.refl w.heap.size w
  have HS := Lib.hid (fun W => Shared_c m n W hm hn)
  have HB := Lib.hid (fun W => Below_i n W)
  have hgl : lng (Int.gcd m n) ≤ 4000 := (lng_low (m := m) hn).resolve_right h0
  have HT := Lib.hid (fun W => Turned_c (Int.gcd m n) W (by unfold lng at hgl; omega))
  obtain ⟨g0, e1, e2⟩ := low_spec (m := m) h0
  have hg : lng (lowG m n) ≤ 4000 := by
    unfold lowG; split
    · rw [lng_neg]; exact hgl
    · exact hgl
  have HP := Lib.hid (fun W => Parted_c m (lowG m n) W hm hg g0)
  have HQ := Lib.hid (fun W => Parted_c n (lowG m n) W hn hg g0)
  rw [ljoin h0]
  obtain ⟨x, hx⟩ : ∃ x, m.fdiv (lowG m n) = x := ⟨_, rfl⟩
  obtain ⟨y, hy⟩ : ∃ y, n.fdiv (lowG m n) = y := ⟨_, rfl⟩
  have lx : (Lib.itoa x).length ≤ 4001 := by
    have := lng_itoa x; have h2 := lng_mono (m := x) (n := m) (by rw [← hx]; exact fdiv_le g0); omega
  have ly : (Lib.itoa y).length ≤ 4001 := by
    have := lng_itoa y; have h2 := lng_mono (m := y) (n := n) (by rw [← hy]; exact fdiv_le g0); omega
  rw [hx] at HP; rw [hy] at HQ; rw [hx, hy]
  have hone := itoa_is_one (n := y)
  clear hx hy e1 e2 hgl hg g0 hm hn h0
  by_cases hneg : n < 0
  · rw [decide_eq_true hneg] at HB
    rw [show lowG m n = -(Int.gcd m n : Int) by unfold lowG; rw [if_pos hneg]] at HP HQ
    generalize (Int.gcd m n : Int) = g at *
    generalize m.fmod (-g) = r1 at *
    generalize n.fmod (-g) = r2 at *
    clear hneg
    by_cases h1 : y = 1
    · rw [decide_eq_true h1] at hone
      rw [show joinT x y = Lib.itoa x by unfold joinT; rw [if_pos h1]]
      clear h1
      generalize Lib.itoa y = ty at *
      generalize Lib.itoa x = tx at *
      go_enter Tryz.func71, Tryz.ntmps71
      go_wp2_with fail
      ((with_reducible refine (HS.out _).mono ?_); rintro e w1 ⟨rfl, hb1⟩)
      have hB1 := hB0.trans (hb1.mono hB0.size); clear hb1
      go_wp2_with fail
      ((with_reducible refine (HB.out _).mono ?_); rintro e w' ⟨rfl, rfl⟩)
      go_wp2_with fail
      ((with_reducible refine (HT.out _).mono ?_); rintro e w' ⟨rfl, rfl⟩)
      go_wp2_with fail
      ((with_reducible refine (HP.out _).mono ?_); rintro e w2 ⟨rfl, hb2⟩)
      have hB2 := hB1.trans (hb2.mono hB1.size); clear hb2
      go_wp2_with fail
      ((with_reducible refine (HQ.out _).mono ?_); rintro e w3 ⟨rfl, hb3⟩)
      have hB3 := hB2.trans (hb3.mono hB2.size); clear hb3
      go_wp2
      go_ret
      exact ⟨rfl, hB3⟩
    · rw [decide_eq_false h1] at hone
      rw [show joinT x y = Lib.itoa x ++ 47 :: Lib.itoa y by unfold joinT; rw [if_neg h1]]
      clear h1
      generalize Lib.itoa y = ty at *
      generalize Lib.itoa x = tx at *
      go_enter Tryz.func71, Tryz.ntmps71
      go_wp2_with fail
      ((with_reducible refine (HS.out _).mono ?_); rintro e w1 ⟨rfl, hb1⟩)
      have hB1 := hB0.trans (hb1.mono hB0.size); clear hb1
      go_wp2_with fail
      ((with_reducible refine (HB.out _).mono ?_); rintro e w' ⟨rfl, rfl⟩)
      go_wp2_with fail
      ((with_reducible refine (HT.out _).mono ?_); rintro e w' ⟨rfl, rfl⟩)
      go_wp2_with fail
      ((with_reducible refine (HP.out _).mono ?_); rintro e w2 ⟨rfl, hb2⟩)
      have hB2 := hB1.trans (hb2.mono hB1.size); clear hb2
      go_wp2_with fail
      ((with_reducible refine (HQ.out _).mono ?_); rintro e w3 ⟨rfl, hb3⟩)
      have hB3 := hB2.trans (hb3.mono hB2.size); clear hb3
      go_wp2
      go_ret
      exact ⟨ret_str (by simp), hB3⟩
  · rw [decide_eq_false hneg] at HB
    rw [show lowG m n = (Int.gcd m n : Int) by unfold lowG; rw [if_neg hneg]] at HP HQ
    generalize (Int.gcd m n : Int) = g at *
    generalize m.fmod g = r1 at *
    generalize n.fmod g = r2 at *
    clear hneg
    by_cases h1 : y = 1
    · rw [decide_eq_true h1] at hone
      rw [show joinT x y = Lib.itoa x by unfold joinT; rw [if_pos h1]]
      clear h1
      generalize Lib.itoa y = ty at *
      generalize Lib.itoa x = tx at *
      go_enter Tryz.func71, Tryz.ntmps71
      go_wp2_with fail
      ((with_reducible refine (HS.out _).mono ?_); rintro e w1 ⟨rfl, hb1⟩)
      have hB1 := hB0.trans (hb1.mono hB0.size); clear hb1
      go_wp2_with fail
      ((with_reducible refine (HB.out _).mono ?_); rintro e w' ⟨rfl, rfl⟩)
      go_wp2_with fail
      ((with_reducible refine (HP.out _).mono ?_); rintro e w2 ⟨rfl, hb2⟩)
      have hB2 := hB1.trans (hb2.mono hB1.size); clear hb2
      go_wp2_with fail
      ((with_reducible refine (HQ.out _).mono ?_); rintro e w3 ⟨rfl, hb3⟩)
      have hB3 := hB2.trans (hb3.mono hB2.size); clear hb3
      go_wp2
      go_ret
      exact ⟨rfl, hB3⟩
    · rw [decide_eq_false h1] at hone
      rw [show joinT x y = Lib.itoa x ++ 47 :: Lib.itoa y by unfold joinT; rw [if_neg h1]]
      clear h1
      generalize Lib.itoa y = ty at *
      generalize Lib.itoa x = tx at *
      go_enter Tryz.func71, Tryz.ntmps71
      go_wp2_with fail
      ((with_reducible refine (HS.out _).mono ?_); rintro e w1 ⟨rfl, hb1⟩)
      have hB1 := hB0.trans (hb1.mono hB0.size); clear hb1
      go_wp2_with fail
      ((with_reducible refine (HB.out _).mono ?_); rintro e w' ⟨rfl, rfl⟩)
      go_wp2_with fail
      ((with_reducible refine (HP.out _).mono ?_); rintro e w2 ⟨rfl, hb2⟩)
      have hB2 := hB1.trans (hb2.mono hB1.size); clear hb2
      go_wp2_with fail
      ((with_reducible refine (HQ.out _).mono ?_); rintro e w3 ⟨rfl, hb3⟩)
      have hB3 := hB2.trans (hb3.mono hB2.size); clear hb3
      go_wp2
      go_ret
      exact ⟨ret_str (by simp), hB3⟩

theorem chk_three (l : Txt) : chk l = 3 ∨ chk l = 11 ∨ chk l = 0 := by
  rcases chk_cases l with ⟨-, h⟩ | ⟨-, -, h⟩ | ⟨-, -, h⟩
  · exact .inl h
  · exact .inr (.inl h)
  · exact .inr (.inr h)
theorem rpart_le (l : Txt) {k : Nat} (h : l.length ≤ k) (hk : 1 ≤ k) : (rnum l).length ≤ k ∧ (rden l).length ≤ k := by
  rcases split_eq l with ⟨hs, e⟩ | ⟨hs, e⟩
  · rw [← e]
    refine ⟨h, ?_⟩
    unfold rden; rw [hs]; exact hk
  · have e2 : l.length = (rnum l).length + ((rden l).length + 1) := by
      conv => lhs; rw [e]
      simp
    omega
theorem big_lng {n : Int} (h : n.natAbs < big) {k : Nat} (hk : 1024 ≤ k) : lng n ≤ k := by have := lng_big h; omega
theorem lng_one : lng (1 : Int) ≤ 1 := (lng_le 1 (k := 1) (by omega)).2 (by decide)
end Go.Proofs.Wk
