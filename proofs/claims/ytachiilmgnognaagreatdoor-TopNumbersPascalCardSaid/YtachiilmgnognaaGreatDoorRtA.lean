/- THE PROGRAM's RATIONAL NUMBERS: parts, joined texts, the check. -/
import Derived.Test.YtachiilmgnognaaGreatDoorRqA
import Derived.Test.YtachiilmgnognaaGreatDoorGL
namespace Go.Proofs.Wk
open Go.RowKit Mt

theorem index_slash : ∀ l : Txt, Lib.indexByte l 47 = slashI l
  | [] => rfl
  | b :: t => by
    have ih := index_slash t
    unfold Lib.indexByte
    rw [ih]
    by_cases hb : b = 47
    · subst hb
      rw [if_pos (by simp)]
      unfold slashI
      rw [show rhas (47 :: t) = true from rhas_yes [] t]
      rfl
    · have h0 : (b == 47) = false := by rw [beq_eq_false_iff_ne]; exact hb
      rw [h0, if_neg (by simp)]
      have h1 : rhas (b :: t) = rhas t := by
        unfold rhas
        rw [List.contains_cons, show ((47 : UInt8) == b) = false by rw [beq_eq_false_iff_ne]; exact fun e => hb e.symm, Bool.false_or]
      have h2 : rnum (b :: t) = b :: rnum t := by
        unfold rnum
        rw [List.takeWhile_cons, show (b != 47) = true by rw [bne_iff_ne]; exact hb, if_pos rfl]
      unfold slashI
      rw [h1, h2]
      cases rhas t
      · rfl
      · simp only [List.length_cons]
        rw [if_pos trivial, if_pos trivial, if_neg (by rw [beq_iff_eq]; omega)]; omega
theorem slash_range (l : Txt) : -1 ≤ slashI l ∧ slashI l < l.length := by
  unfold slashI
  cases h : rhas l with
  | false => simp; omega
  | true =>
    obtain ⟨-, -, e3⟩ := rden_drop h
    rw [if_pos rfl]; omega
set_option maxRecDepth 100000 in
theorem Index_c (l : Txt) (w : World) : Calls Tryz.prog 166 #[.string ⟨l.toArray⟩, .string ⟨#[47]⟩] w (Pur w (.int .i64 (slashI l))) := by
  have hi := fun W => Tryz.stringslite_IndexByte ⟨l.toArray⟩ 47 W
  rw [show Lib.indexByte (⟨l.toArray⟩ : ByteArray).data.toList (47 : Int).toNat.toUInt8 = slashI l from index_slash l] at hi
  have HI := Lib.hid hi
  clear hi
  by_cases h : l = [47]
  · subst h
    rw [show slashI [47] = 0 from by decide]
    clear HI
    go_enter Tryz.func166, Tryz.ntmps166
    go_wp2
    go_ret
    exact ⟨rfl, rfl⟩
  · have hb : (([47] : Txt) == l) = false := by rw [beq_eq_false_iff_ne]; exact fun e => h e.symm
    clear h
    generalize slashI l = i at *
    go_enter Tryz.func166, Tryz.ntmps166
    go_wp2_with fail
    refine (HI.out _).mono ?_; rintro e w1 ⟨rfl, rfl⟩
    go_wp2
    go_ret
    exact ⟨rfl, rfl⟩
set_option maxRecDepth 100000 in
theorem Cut2_c (l : Txt) (w : World) (hl : l.length ≤ 140737488355328) : Calls Tryz.prog 142 #[.string ⟨l.toArray⟩, .string ⟨#[47]⟩] w (Ret w (.tuple #[.string ⟨(rnum l).toArray⟩, .string ⟨(if rhas l then rden l else []).toArray⟩, .bool (rhas l)])) := by
  have hs := Index_c l w
  cases h : rhas l with
  | false =>
    rw [show slashI l = -1 by unfold slashI; rw [h]; rfl] at hs
    obtain ⟨e1, e2⟩ := rnum_no h
    rw [e1, if_neg (by simp)]
    have HS := Lib.hid hs
    clear hs h e1 e2
    go_enter Tryz.func142, Tryz.ntmps142
    go_wp2_with fail
    ((with_reducible refine (HS.out).mono ?_); rintro e w' ⟨rfl, rfl⟩)
    go_wp2
    go_ret3
    exact ⟨rfl, Below.refl _ _⟩
  | true =>
    rw [if_pos rfl]
    rw [show slashI l = ((rnum l).length : Int) by unfold slashI; rw [h]; rfl] at hs
    obtain ⟨e1, e2, e3⟩ := rden_drop h
    obtain ⟨n, hn⟩ : ∃ n, (rnum l).length = n := ⟨_, rfl⟩
    rw [hn] at hs e1 e2 e3
    have HS := Lib.hid hs; have E1 := Lib.hid e1; have E2 := Lib.hid e2
    clear hs h e1 e2 hn
    go_enter Tryz.func142, Tryz.ntmps142
    go_wp2_with fail
    ((with_reducible refine (HS.out).mono ?_); rintro e w' ⟨rfl, rfl⟩)
    have g1 : (n : Int) ≤ (l.length : Int) := by omega
    have g2 : (0 : Int) ≤ (n : Int) + 1 := by omega
    have g3 : (n : Int) + 1 ≤ (l.length : Int) := by omega
    have g4 : IntKind.i64.wrap ((n : Int) + 1) = (n : Int) + 1 := IntWalk.i64_in _ (by omega)
    have g5 : ((n : Int) + 1).toNat = n + 1 := by omega
    go_wp2_with fail
    go_region
    all_goals (go_wp2; go_ret3)
    all_goals
      refine ⟨?_, (Below.refl _ _).drew⟩
      rw [← E1.out, ← E2.out]
      have e6 : (l.drop (n + 1)).take (l.length - (n + 1)) = l.drop (n + 1) := List.take_of_length_le (by simp)
      conv => rhs; rw [← e6]
      rfl
set_option maxRecDepth 100000 in
theorem sCut_c (l : Txt) (w : World) (hl : l.length ≤ 140737488355328) : Calls Tryz.prog 116 #[.string ⟨l.toArray⟩, .string ⟨#[47]⟩] w (Ret w (.tuple #[.string ⟨(rnum l).toArray⟩, .string ⟨(if rhas l then rden l else []).toArray⟩, .bool (rhas l)])) := by
  have HC := Lib.hid (fun W => Cut2_c l W hl)
  have hB0 := Below.refl w.heap.size w
  clear hl
  generalize (if rhas l then rden l else []) = d at *
  generalize rnum l = n at *
  generalize rhas l = o at *
  go_enter Tryz.func116, Tryz.ntmps116
  go_wp2_with fail
  ((with_reducible refine (HC.out _).mono ?_); rintro e w1 ⟨rfl, hb1⟩)
  have hB1 := hB0.trans (hb1.mono hB0.size); clear hb1
  go_wp2
  go_ret3
  exact ⟨rfl, hB1⟩
set_option maxRecDepth 100000 in
theorem cut_c (l : Txt) (w : World) (hl : l.length ≤ 140737488355328) : Calls Tryz.prog 66 #[.string ⟨l.toArray⟩] w (Ret w (.tuple #[.string ⟨(rnum l).toArray⟩, .string ⟨(rden l).toArray⟩, .bool (rhas l)])) := by
  have hc := fun W => sCut_c l W hl
  have hB0 := Below.refl w.heap.size w
  cases h : rhas l with
  | false =>
    rw [h, if_neg (by simp)] at hc
    have HC := Lib.hid hc
    obtain ⟨-, e2⟩ := rnum_no h
    rw [e2]
    clear hc h e2 hl
    go_enter Tryz.func66, Tryz.ntmps66
    go_wp2_with fail
    ((with_reducible refine (HC.out _).mono ?_); rintro e w1 ⟨rfl, hb1⟩)
    have hB1 := hB0.trans (hb1.mono hB0.size); clear hb1
    go_wp2
    go_ret3
    exact ⟨rfl, hB1⟩
  | true =>
    rw [h, if_pos rfl] at hc
    have HC := Lib.hid hc
    clear hc h hl
    go_enter Tryz.func66, Tryz.ntmps66
    go_wp2_with fail
    ((with_reducible refine (HC.out _).mono ?_); rintro e w1 ⟨rfl, hb1⟩)
    have hB1 := hB0.trans (hb1.mono hB0.size); clear hb1
    go_wp2
    go_ret3
    exact ⟨rfl, hB1⟩
set_option maxRecDepth 100000 in
theorem joined_c (n d : Int) (w : World) (hn : lng n ≤ 1100) (hd : lng d ≤ 1100) : Calls Tryz.prog 99 #[.string ⟨(Lib.itoa n).toArray⟩, .string ⟨(Lib.itoa d).toArray⟩] w (Pur w (.string ⟨(joinT n d).toArray⟩)) := by
  have h1 := itoa_is_one (n := d)
  by_cases hd1 : d = 1
  · rw [show joinT n d = Lib.itoa n by unfold joinT; rw [if_pos hd1]]
    rw [decide_eq_true hd1] at h1
    generalize Lib.itoa n = tn at *
    generalize Lib.itoa d = td at *
    go_enter Tryz.func99, Tryz.ntmps99
    go_wp2
    go_ret
    exact ⟨rfl, rfl⟩
  · rw [show joinT n d = Lib.itoa n ++ 47 :: Lib.itoa d by unfold joinT; rw [if_neg hd1]]
    rw [decide_eq_false hd1] at h1
    have l1 := lng_itoa n
    have l2 := lng_itoa d
    have l3 : (Lib.itoa n).length ≤ 1101 := by omega
    have l4 : (Lib.itoa d).length ≤ 1101 := by omega
    clear l1 l2 hn hd hd1
    generalize Lib.itoa n = tn at *
    generalize Lib.itoa d = td at *
    go_enter Tryz.func99, Tryz.ntmps99
    go_wp2
    go_ret
    exact ⟨ret_str (by simp), rfl⟩
end Go.Proofs.Wk
