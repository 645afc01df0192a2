/- THE REFERENCE's RATIONAL NUMBERS: parts, the check, lowest terms. -/
import Derived.Test.YtachiilmgnognaaGreatDoorRatA
import Derived.Test.YtachiilmgnognaaGreatDoorGN
namespace Go.Proofs.Wk
open Go.RowKit Mt

theorem rnum_snoc {l : Txt} {i : Nat} (h : i < l.length) (hn : ∀ c ∈ l.take i, c ≠ 47) (hi : l[i] = 47) : rhas l = true ∧ (rnum l).length = i := by
  have e : l = l.take i ++ 47 :: l.drop (i + 1) := by
    conv => lhs; rw [← List.take_append_drop i l, List.drop_eq_getElem_cons h, hi]
  constructor
  · rw [e]; exact rhas_yes _ _
  · unfold rnum
    rw [e, takeWhile_no hn]
    simp; omega
theorem take_no {l : Txt} {i : Nat} (h : i < l.length) (hn : ∀ c ∈ l.take i, c ≠ 47) (hi : l[i] ≠ 47) : ∀ c ∈ l.take (i + 1), c ≠ 47 := by
  intro c hc
  rw [List.take_succ_eq_append_getElem h] at hc
  rcases List.mem_append.1 hc with h1 | h1
  · exact hn c h1
  · rw [List.mem_singleton.1 h1]; exact hi
def slashI (l : Txt) : Int := if rhas l then ((rnum l).length : Int) else -1
set_option maxRecDepth 100000 in
theorem slash_c (l : Txt) (w : World) (hl : l.length ≤ 140737488355328) : Calls Tryz.prog 104 #[.string ⟨l.toArray⟩] w (Pur w (.int .i64 (slashI l))) := by
  go_enter Tryz.func104, Tryz.ntmps104
  go_wp2_with fail
  go_loop [3] (fun si => ∃ i : Nat, si = .int .i64 (i : Int) ∧ i ≤ l.length ∧ Hid (∀ c ∈ l.take i, c ≠ 47)) (fun si => l.length - (intOf si).toNat)
  case atStart => exact ⟨0, rfl, Nat.zero_le _, by intro c hc; simp at hc⟩
  case round =>
    obtain ⟨i, rfl, hi, hA⟩ := hrel
    by_cases hlt : i < l.length
    · by_cases hc : l[i] = 47
      · obtain ⟨h1, h2⟩ := rnum_snoc hlt hA.out hc
        have HS := Lib.hid (show slashI l = (i : Int) by unfold slashI; rw [if_pos h1, h2])
        have hb := u8_eq_yes (d := 47) (k := 47) rfl hc
        clear h1 h2 hc
        go_wp2
        go_ret
        rw [HS.out]
        exact ⟨rfl, rfl⟩
      · have HT := Lib.hid (take_no hlt hA.out hc)
        have hb := u8_eq_no (d := 47) (k := 47) rfl hc
        clear hc
        go_wp2
        go_round
        case rel => exact ⟨i + 1, by go_num, by omega, HT⟩
        case measure => simp [intOf]; omega
    · obtain rfl : i = l.length := by omega
      have HS := Lib.hid (show slashI l = -1 by
        unfold slashI
        rw [rhas_no (by have := hA.out; rwa [List.take_length] at this)]; rfl)
      go_wp2
      go_ret
      rw [HS.out]
      exact ⟨rfl, rfl⟩
theorem parts_of (a b : Txt) : (a ++ 47 :: b).drop (a.length + 1) = b ∧ (a ++ 47 :: b).take a.length = a ∧ a.length < (a ++ 47 :: b).length := by
  refine ⟨?_, List.take_left, by simp⟩
  rw [show a ++ 47 :: b = (a ++ [47]) ++ b by simp, show a.length + 1 = (a ++ [47]).length by simp]
  exact List.drop_left
theorem rden_drop {l : Txt} (h : rhas l = true) : l.drop ((rnum l).length + 1) = rden l ∧ l.take (rnum l).length = rnum l ∧ (rnum l).length < l.length := by
  rcases split_eq l with ⟨hs, e⟩ | ⟨hs, e⟩
  · rw [h] at hs; cases hs
  · have := parts_of (rnum l) (rden l)
    rwa [← e] at this
theorem rnum_no {l : Txt} (h : rhas l = false) : rnum l = l ∧ rden l = [49] := by
  rcases split_eq l with ⟨hs, e⟩ | ⟨hs, e⟩
  · exact ⟨e.symm, by unfold rden; rw [h]; rfl⟩
  · rw [h] at hs; cases hs
set_option maxRecDepth 100000 in
theorem Split_c (l : Txt) (w : World) (hl : l.length ≤ 140737488355328) : Calls Tryz.prog 62 #[.string ⟨l.toArray⟩] w (Ret w (.tuple #[.string ⟨(rnum l).toArray⟩, .string ⟨(rden l).toArray⟩])) := by
  have hs := slash_c l w hl
  cases h : rhas l with
  | false =>
    rw [show slashI l = -1 by unfold slashI; rw [h]; rfl] at hs
    obtain ⟨e1, e2⟩ := rnum_no h
    rw [e1, e2]
    have HS := Lib.hid hs
    clear hs h e1 e2
    go_enter Tryz.func62, Tryz.ntmps62
    go_wp2_with fail
    ((with_reducible refine (HS.out).mono ?_); rintro e w' ⟨rfl, rfl⟩)
    go_wp2
    go_ret2
    exact ⟨rfl, Below.refl _ _⟩
  | true =>
    rw [show slashI l = ((rnum l).length : Int) by unfold slashI; rw [h]; rfl] at hs
    obtain ⟨e1, e2, e3⟩ := rden_drop h
    obtain ⟨n, hn⟩ : ∃ n, (rnum l).length = n := ⟨_, rfl⟩
    rw [hn] at hs e1 e2 e3
    have HS := Lib.hid hs; have E1 := Lib.hid e1; have E2 := Lib.hid e2
    clear hs h e1 e2 hn
    go_enter Tryz.func62, Tryz.ntmps62
    go_wp2_with fail
    ((with_reducible refine (HS.out).mono ?_); rintro e w' ⟨rfl, rfl⟩)
    have g1 : (n : Int) ≤ (l.length : Int) := by omega
    have g2 : (0 : Int) ≤ (n : Int) + 1 := by omega
    have g3 : (n : Int) + 1 ≤ (l.length : Int) := by omega
    have g4 : IntKind.i64.wrap ((n : Int) + 1) = (n : Int) + 1 := IntWalk.i64_in _ (by omega)
    have g5 : ((n : Int) + 1).toNat = n + 1 := by omega
    go_wp2_with fail
    go_region
    all_goals (go_wp2; go_ret2)
    all_goals
      refine ⟨?_, (Below.refl _ _).drew⟩
      rw [← E1.out, ← E2.out]
      have e6 : (l.drop (n + 1)).take (l.length - (n + 1)) = l.drop (n + 1) := List.take_of_length_le (by simp)
      conv => rhs; rw [← e6]
      rfl
end Go.Proofs.Wk
