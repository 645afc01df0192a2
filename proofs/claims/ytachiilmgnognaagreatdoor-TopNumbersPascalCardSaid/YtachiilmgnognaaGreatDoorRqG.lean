/- THE REFERENCE's RATIONAL NUMBERS: parts, signs, opposites, floors; quotients of integers; what is short. -/
import Derived.Test.YtachiilmgnognaaGreatDoorRqF
import Derived.Test.YtachiilmgnognaaGreatDoorGN
namespace Go.Proofs.Wk
open Go.RowKit Mt

theorem itoa_is_zero' {n : Int} : (Lib.itoa n == [48]) = decide (n = 0) := by
  by_cases h : n = 0
  · subst h; rw [itoa_zero]; rfl
  · rw [decide_eq_false h, beq_eq_false_iff_ne, ← itoa_zero]
    exact fun e => h (itoa_inj e)
theorem lng_i64q {m : Int} (h0 : -9223372036854775808 ≤ m) (h1 : m ≤ 9223372036854775807) : lng m ≤ 19 := by
  have : lng m ≤ lng (9223372036854775808 : Int) := lng_mono (by omega)
  have h2 : lng (9223372036854775808 : Int) ≤ 19 := (lng_le _ (by omega)).2 (by decide)
  omega
def negQ (p : Rat) : Txt × Int := (rtoa (-p), 0)
def floorQ (p : Rat) : Txt × Int := (Lib.itoa (p.num.fdiv p.den), 0)
def signQ (p : Rat) : Int × Int := (sgnQ p, 0)
def partQ (p : Rat) : (Txt × Txt) × Int := ((Lib.itoa p.num, Lib.itoa (p.den : Int)), 0)
abbrev ans3p (r : (Txt × Txt) × Int) : Value := .tuple #[.string ⟨r.1.1.toArray⟩, .string ⟨r.1.2.toArray⟩, .int .i64 r.2]
set_option maxRecDepth 100000 in
theorem Down_q (p : Rat) (w : World) (hp : szQ p 1900) : Calls Tryz.prog 102 #[.string ⟨(rtoa p).toArray⟩] w (Ret w (.string ⟨(Lib.itoa (p.num.fdiv p.den)).toArray⟩)) := by
  have HS := Lib.hid (fun W => Split_i p W hp (by omega))
  have HP := Lib.hid (fun W => Parted_c p.num p.den W (by have := hp.1; omega) (by have := hp.2; omega) (den_ne p))
  have hB0 := Below.refl w.heap.size w
  clear hp
  generalize Lib.itoa (p.num.fdiv p.den) = t3 at *
  generalize Lib.itoa (p.num.fmod p.den) = t4 at *
  generalize rtoa p = tp at *
  generalize Lib.itoa p.num = t1 at *
  generalize Lib.itoa (p.den : Int) = t2 at *
  go_enter Tryz.func102, Tryz.ntmps102
  go_wp2_with fail
  ((with_reducible refine (HS.out _).mono ?_); rintro e w1 ⟨rfl, hb1⟩)
  have hB1 := hB0.trans (hb1.mono hB0.size); clear hb1
  go_wp2_with fail
  ((with_reducible refine (HP.out _).mono ?_); rintro e w2 ⟨rfl, hb2⟩)
  have hB2 := hB1.trans (hb2.mono hB1.size); clear hb2
  go_wp2
  go_ret
  exact ⟨rfl, hB2⟩
set_option maxRecDepth 100000 in
theorem rNeg_q (a : Txt) (w : World) (ha : a.length ≤ 140737488355328) : Calls Tryz.prog 45 #[.string ⟨a.toArray⟩] w (Ret w (ans2 (run1 [] negQ a))) := by
  have HC := Lib.hid (fun W => rqCheck_c a W ha)
  have hB0 := Below.refl w.heap.size w
  clear ha
  rcases run1_cases a with ⟨hne, hall⟩ | ⟨p, rfl, hp, h0, hall⟩
  · rw [hall]
    have h3 := bne_ne hne
    generalize rchk a = x at *
    clear hne hall
    go_enter Tryz.func45, Tryz.ntmps45
    go_wp2_with fail
    ((with_reducible refine (HC.out _).mono ?_); rintro e w1 ⟨rfl, hb1⟩)
    have hB1 := hB0.trans (hb1.mono hB0.size); clear hb1
    go_wp2
    go_ret2
    exact ⟨rfl, hB1⟩
  · rw [hall]
    rw [h0] at HC
    have HI := Lib.hid (fun W => Turned_q p W hp.s19)
    unfold negQ
    clear hp h0 hall
    generalize rtoa (-p) = y0 at *
    generalize rtoa p = tp at *
    go_enter Tryz.func45, Tryz.ntmps45
    go_wp2_with fail
    ((with_reducible refine (HC.out _).mono ?_); rintro e w1 ⟨rfl, hb1⟩)
    have hB1 := hB0.trans (hb1.mono hB0.size); clear hb1
    go_wp2_with fail
    ((with_reducible refine (HI.out _).mono ?_); rintro e w2 ⟨rfl, hb2⟩)
    have hB2 := hB1.trans (hb2.mono hB1.size); clear hb2
    go_wp2
    go_ret2
    exact ⟨rfl, hB2⟩
set_option maxRecDepth 100000 in
theorem rFloor_q (a : Txt) (w : World) (ha : a.length ≤ 140737488355328) : Calls Tryz.prog 47 #[.string ⟨a.toArray⟩] w (Ret w (ans2 (run1 [] floorQ a))) := by
  have HC := Lib.hid (fun W => rqCheck_c a W ha)
  have hB0 := Below.refl w.heap.size w
  clear ha
  rcases run1_cases a with ⟨hne, hall⟩ | ⟨p, rfl, hp, h0, hall⟩
  · rw [hall]
    have h3 := bne_ne hne
    generalize rchk a = x at *
    clear hne hall
    go_enter Tryz.func47, Tryz.ntmps47
    go_wp2_with fail
    ((with_reducible refine (HC.out _).mono ?_); rintro e w1 ⟨rfl, hb1⟩)
    have hB1 := hB0.trans (hb1.mono hB0.size); clear hb1
    go_wp2
    go_ret2
    exact ⟨rfl, hB1⟩
  · rw [hall]
    rw [h0] at HC
    have HI := Lib.hid (fun W => Down_q p W hp.s19)
    unfold floorQ
    clear hp h0 hall
    generalize Lib.itoa (p.num.fdiv p.den) = y0 at *
    generalize rtoa p = tp at *
    go_enter Tryz.func47, Tryz.ntmps47
    go_wp2_with fail
    ((with_reducible refine (HC.out _).mono ?_); rintro e w1 ⟨rfl, hb1⟩)
    have hB1 := hB0.trans (hb1.mono hB0.size); clear hb1
    go_wp2_with fail
    ((with_reducible refine (HI.out _).mono ?_); rintro e w2 ⟨rfl, hb2⟩)
    have hB2 := hB1.trans (hb2.mono hB1.size); clear hb2
    go_wp2
    go_ret2
    exact ⟨rfl, hB2⟩
set_option maxRecDepth 100000 in
theorem rSign_q (a : Txt) (w : World) (ha : a.length ≤ 140737488355328) : Calls Tryz.prog 43 #[.string ⟨a.toArray⟩] w (Ret w (int2 (run1 0 signQ a))) := by
  have HC := Lib.hid (fun W => rqCheck_c a W ha)
  have hB0 := Below.refl w.heap.size w
  clear ha
  rcases run1_cases a with ⟨hne, hall⟩ | ⟨p, rfl, hp, h0, hall⟩
  · rw [hall]
    have h3 := bne_ne hne
    generalize rchk a = x at *
    clear hne hall
    go_enter Tryz.func43, Tryz.ntmps43
    go_wp2_with fail
    ((with_reducible refine (HC.out _).mono ?_); rintro e w1 ⟨rfl, hb1⟩)
    have hB1 := hB0.trans (hb1.mono hB0.size); clear hb1
    go_wp2
    go_ret2
    exact ⟨rfl, hB1⟩
  · rw [hall]
    rw [h0] at HC
    have HI := Lib.hid (fun W => Signum_q p W hp.s19)
    unfold signQ
    clear hp h0 hall
    generalize sgnQ p = y0 at *
    generalize rtoa p = tp at *
    go_enter Tryz.func43, Tryz.ntmps43
    go_wp2_with fail
    ((with_reducible refine (HC.out _).mono ?_); rintro e w1 ⟨rfl, hb1⟩)
    have hB1 := hB0.trans (hb1.mono hB0.size); clear hb1
    go_wp2_with fail
    ((with_reducible refine (HI.out _).mono ?_); rintro e w2 ⟨rfl, hb2⟩)
    have hB2 := hB1.trans (hb2.mono hB1.size); clear hb2
    go_wp2
    go_ret2
    exact ⟨rfl, hB2⟩
set_option maxRecDepth 100000 in
theorem rParts_q (a : Txt) (w : World) (ha : a.length ≤ 140737488355328) : Calls Tryz.prog 41 #[.string ⟨a.toArray⟩] w (Ret w (ans3p (run1 ([], []) partQ a))) := by
  have HC := Lib.hid (fun W => rqCheck_c a W ha)
  have hB0 := Below.refl w.heap.size w
  clear ha
  rcases run1_cases a with ⟨hne, hall⟩ | ⟨p, rfl, hp, h0, hall⟩
  · rw [hall]
    have h3 := bne_ne hne
    generalize rchk a = x at *
    clear hne hall
    go_enter Tryz.func41, Tryz.ntmps41
    go_wp2_with fail
    ((with_reducible refine (HC.out _).mono ?_); rintro e w1 ⟨rfl, hb1⟩)
    have hB1 := hB0.trans (hb1.mono hB0.size); clear hb1
    go_wp2
    go_ret3
    exact ⟨rfl, hB1⟩
  · rw [hall]
    rw [h0] at HC
    have HI := Lib.hid (fun W => Split_i p W hp.s19 (by omega))
    unfold partQ
    clear hp h0 hall
    generalize Lib.itoa p.num = y0 at *
    generalize Lib.itoa (p.den : Int) = y1 at *
    generalize rtoa p = tp at *
    go_enter Tryz.func41, Tryz.ntmps41
    go_wp2_with fail
    ((with_reducible refine (HC.out _).mono ?_); rintro e w1 ⟨rfl, hb1⟩)
    have hB1 := hB0.trans (hb1.mono hB0.size); clear hb1
    go_wp2_with fail
    ((with_reducible refine (HI.out _).mono ?_); rintro e w2 ⟨rfl, hb2⟩)
    have hB2 := hB1.trans (hb2.mono hB1.size); clear hb2
    go_wp2
    go_ret3
    exact ⟨rfl, hB2⟩
/-- The quotient of two texts of integers. -/
def mk2 (a b : Txt) : Txt × Int := if both a b = 0 then makQ (val a) (val b) else ([], both a b)
theorem mk2_itoa {m n : Int} (hm : m.natAbs < big) (hn : n.natAbs < big) : mk2 (Lib.itoa m) (Lib.itoa n) = makQ m n := by
  unfold mk2; rw [if_pos (both_ok hm hn), val_itoa, val_itoa]
set_option maxRecDepth 100000 in
theorem rMake_q (a b : Txt) (w : World) (ha : a.length ≤ 140737488355328) (hb : b.length ≤ 140737488355328) : Calls Tryz.prog 32 #[.string ⟨a.toArray⟩, .string ⟨b.toArray⟩] w (Ret w (ans2 (mk2 a b))) := by
  have HA := Lib.hid (fun W => Check_c a W ha)
  have HB := Lib.hid (fun W => Check_c b W hb)
  have hB0 := Below.refl w.heap.size w
  by_cases h1 : chk a = 0
  · by_cases h2 : chk b = 0
    · obtain ⟨ea, ba⟩ := ok_text h1
      obtain ⟨eb, bb⟩ := ok_text h2
      rw [h1] at HA; rw [h2] at HB
      rw [← ea, ← eb, mk2_itoa ba bb]
      rw [← ea] at HA; rw [← eb] at HB
      generalize val a = m at *
      generalize val b = n at *
      clear ea eb ha hb h1 h2
      have hz := itoa_is_zero' (n := n)
      unfold makQ
      by_cases h0 : n = 0
      · rw [if_pos h0]
        rw [decide_eq_true h0] at hz
        generalize Lib.itoa m = ta at *
        generalize Lib.itoa n = tb at *
        clear h0
        go_enter Tryz.func32, Tryz.ntmps32
        go_wp2_with fail
        ((with_reducible refine (HA.out _).mono ?_); rintro e w' ⟨rfl, rfl⟩)
        go_wp2_with fail
        ((with_reducible refine (HB.out _).mono ?_); rintro e w' ⟨rfl, rfl⟩)
        go_wp2
        go_ret2
        exact ⟨rfl, hB0⟩
      · rw [if_neg h0]
        rw [decide_eq_false h0] at hz
        have HL := Lib.hid (fun W => Lowest_c m n W (big_lng ba (by omega)) (big_lng bb (by omega)) h0)
        generalize rtoa (Rat.divInt m n) = tr at *
        generalize Lib.itoa m = ta at *
        generalize Lib.itoa n = tb at *
        clear h0 ba bb
        go_enter Tryz.func32, Tryz.ntmps32
        go_wp2_with fail
        ((with_reducible refine (HA.out _).mono ?_); rintro e w' ⟨rfl, rfl⟩)
        go_wp2_with fail
        ((with_reducible refine (HB.out _).mono ?_); rintro e w' ⟨rfl, rfl⟩)
        go_wp2_with fail
        ((with_reducible refine (HL.out _).mono ?_); rintro e w1 ⟨rfl, hb1⟩)
        have hB1 := hB0.trans (hb1.mono hB0.size); clear hb1
        go_wp2
        go_ret2
        exact ⟨rfl, hB1⟩
    · rw [show mk2 a b = ([], chk b) by unfold mk2; rw [if_neg (fun e => h2 (both_zero.1 e).2)]; unfold both; rw [if_pos h1]]
      rw [h1] at HA
      have h3 := bne_ne h2
      generalize chk b = x at *
      clear ha hb h1 h2
      go_enter Tryz.func32, Tryz.ntmps32
      go_wp2_with fail
      ((with_reducible refine (HA.out _).mono ?_); rintro e w' ⟨rfl, rfl⟩)
      go_wp2_with fail
      ((with_reducible refine (HB.out _).mono ?_); rintro e w' ⟨rfl, rfl⟩)
      go_wp2
      go_ret2
      exact ⟨rfl, hB0⟩
  · rw [show mk2 a b = ([], chk a) by unfold mk2; rw [if_neg (fun e => h1 (both_zero.1 e).1)]; unfold both; rw [if_neg h1]]
    have h3 := bne_ne h1
    generalize chk a = x at *
    clear ha hb h1
    go_enter Tryz.func32, Tryz.ntmps32
    go_wp2_with fail
    ((with_reducible refine (HA.out _).mono ?_); rintro e w' ⟨rfl, rfl⟩)
    go_wp2
    go_ret2
    exact ⟨rfl, hB0⟩
set_option maxRecDepth 100000 in
theorem Over_q (m n : Int) (w : World) (m0 : -9223372036854775808 ≤ m) (m1 : m ≤ 9223372036854775807) (n0 : -9223372036854775808 ≤ n) (n1 : n ≤ 9223372036854775807) (h0 : n ≠ 0) :
    Calls Tryz.prog 57 #[.int .i64 m, .int .i64 n] w (Ret w (.string ⟨(rtoa (Rat.divInt m n)).toArray⟩)) := by
  have HM := Lib.hid (fun W => Of_c m W m0 m1)
  have HN := Lib.hid (fun W => Of_c n W n0 n1)
  have HL := Lib.hid (fun W => Lowest_c m n W (by have := lng_i64q m0 m1; omega) (by have := lng_i64q n0 n1; omega) h0)
  have hB0 := Below.refl w.heap.size w
  clear m0 m1 n0 n1 h0
  generalize rtoa (Rat.divInt m n) = tr at *
  generalize Lib.itoa m = ta at *
  generalize Lib.itoa n = tb at *
  go_enter Tryz.func57, Tryz.ntmps57
  go_wp2_with fail
  ((with_reducible refine (HM.out _).mono ?_); rintro e w1 ⟨rfl, hb1⟩)
  have hB1 := hB0.trans (hb1.mono hB0.size); clear hb1
  go_wp2_with fail
  ((with_reducible refine (HN.out _).mono ?_); rintro e w2 ⟨rfl, hb2⟩)
  have hB2 := hB1.trans (hb2.mono hB1.size); clear hb2
  go_wp2_with fail
  ((with_reducible refine (HL.out _).mono ?_); rintro e w3 ⟨rfl, hb3⟩)
  have hB3 := hB2.trans (hb3.mono hB2.size); clear hb3
  go_wp2
  go_ret
  exact ⟨rfl, hB3⟩
set_option maxRecDepth 100000 in
theorem rWhole_q (m : Int) (w : World) (m0 : -9223372036854775808 ≤ m) (m1 : m ≤ 9223372036854775807) : Calls Tryz.prog 36 #[.int .i64 m] w (Ret w (.string ⟨(Lib.itoa m).toArray⟩)) := by
  have HM := Lib.hid (fun W => Of_c m W m0 m1)
  have hB0 := Below.refl w.heap.size w
  clear m0 m1
  generalize Lib.itoa m = ta at *
  go_enter Tryz.func36, Tryz.ntmps36
  go_wp2_with fail
  ((with_reducible refine (HM.out _).mono ?_); rintro e w1 ⟨rfl, hb1⟩)
  have hB1 := hB0.trans (hb1.mono hB0.size); clear hb1
  go_wp2
  go_ret
  exact ⟨rfl, hB1⟩
set_option maxRecDepth 100000 in
theorem Short_c (a : Txt) (w : World) (ha : a.length ≤ 140737488355328) : Calls Tryz.prog 13 #[.string ⟨a.toArray⟩] w (Ret w (.bool (decide ((rnum a).length ≤ 30 ∧ (rden a).length ≤ 30)))) := by
  have HS := Lib.hid (fun W => Split_c a W ha)
  have hB0 := Below.refl w.heap.size w
  obtain ⟨l1, l2⟩ := rpart_le a ha (by omega)
  generalize rnum a = A at *
  generalize rden a = B at *
  clear ha
  by_cases h1 : A.length ≤ 30
  · by_cases h2 : B.length ≤ 30
    · rw [decide_eq_true ⟨h1, h2⟩]
      have h3 : (A.length : Int) ≤ 30 := by omega
      have h4 : (B.length : Int) ≤ 30 := by omega
      clear h1 h2
      go_enter Tryz.func13, Tryz.ntmps13
      go_wp2_with fail
      ((with_reducible refine (HS.out _).mono ?_); rintro e w1 ⟨rfl, hb1⟩)
      have hB1 := hB0.trans (hb1.mono hB0.size); clear hb1
      go_wp2
      go_ret
      exact ⟨rfl, hB1⟩
    · rw [decide_eq_false (fun e => h2 e.2)]
      have h3 : (A.length : Int) ≤ 30 := by omega
      have h4 : decide ((B.length : Int) ≤ 30) = false := decide_eq_false (by omega)
      clear h1 h2
      go_enter Tryz.func13, Tryz.ntmps13
      go_wp2_with fail
      ((with_reducible refine (HS.out _).mono ?_); rintro e w1 ⟨rfl, hb1⟩)
      have hB1 := hB0.trans (hb1.mono hB0.size); clear hb1
      go_wp2
      go_ret
      exact ⟨rfl, hB1⟩
  · rw [decide_eq_false (fun e => h1 e.1)]
    have h3 : decide ((A.length : Int) ≤ 30) = false := decide_eq_false (by omega)
    clear h1
    go_enter Tryz.func13, Tryz.ntmps13
    go_wp2_with fail
    ((with_reducible refine (HS.out _).mono ?_); rintro e w1 ⟨rfl, hb1⟩)
    have hB1 := hB0.trans (hb1.mono hB0.size); clear hb1
    go_wp2
    go_ret
    exact ⟨rfl, hB1⟩
set_option maxRecDepth 100000 in
theorem FewInt_c (a : Txt) (w : World) : Calls Tryz.prog 30 #[.string ⟨a.toArray⟩] w (Pur w (.bool (decide (a.length ≤ 120)))) := by
  by_cases h1 : a.length ≤ 120
  · rw [decide_eq_true h1]
    have h3 : (a.length : Int) ≤ 120 := by omega
    clear h1
    go_enter Tryz.func30, Tryz.ntmps30
    go_wp2
    go_ret
    exact ⟨rfl, rfl⟩
  · rw [decide_eq_false h1]
    have h3 : decide ((a.length : Int) ≤ 120) = false := decide_eq_false (by omega)
    clear h1
    go_enter Tryz.func30, Tryz.ntmps30
    go_wp2
    go_ret
    exact ⟨rfl, rfl⟩
/-- A call that returns one of the two Bools. -/
def Ask (w : World) (e : Ending) (w' : World) : Prop := ∃ b, e = .returned (.bool b) ∧ Below w.heap.size w w'
set_option maxRecDepth 100000 in
theorem Few_q (a : Txt) (w : World) (ha : a.length ≤ 140737488355328) : Calls Tryz.prog 19 #[.string ⟨a.toArray⟩] w (Ask w) := by
  have HS := Lib.hid (fun W => Split_c a W ha)
  have hB0 := Below.refl w.heap.size w
  have hA := fun W => FewInt_c (rnum a) W
  have hD := fun W => FewInt_c (rden a) W
  obtain ⟨l1, l2⟩ := rpart_le a ha (by omega)
  generalize rnum a = A at *
  generalize rden a = B at *
  by_cases h1 : A.length ≤ 120
  · rw [decide_eq_true h1] at hA
    have HA := Lib.hid hA
    clear hA
    by_cases h2 : B.length ≤ 120
    · rw [decide_eq_true h2] at hD
      have HD := Lib.hid hD
      clear hD h1 h2
      clear ha
      go_enter Tryz.func19, Tryz.ntmps19
      go_wp2_with fail
      ((with_reducible refine (HS.out _).mono ?_); rintro e w1 ⟨rfl, hb1⟩)
      have hB1 := hB0.trans (hb1.mono hB0.size); clear hb1
      go_wp2_with fail
      ((with_reducible refine (HA.out _).mono ?_); rintro e w' ⟨rfl, rfl⟩)
      go_wp2_with fail
      ((with_reducible refine (HD.out _).mono ?_); rintro e w' ⟨rfl, rfl⟩)
      go_wp2
      go_ret
      exact ⟨_, rfl, hB1⟩
    · rw [decide_eq_false h2] at hD
      have HD := Lib.hid hD
      clear hD h1 h2
      by_cases h3 : (a.length : Int) < 5000
      · by_cases h4 : (A.length : Int) > 1025
        · clear ha
          go_enter Tryz.func19, Tryz.ntmps19
          go_wp2_with fail
          ((with_reducible refine (HS.out _).mono ?_); rintro e w1 ⟨rfl, hb1⟩)
          have hB1 := hB0.trans (hb1.mono hB0.size); clear hb1
          go_wp2_with fail
          ((with_reducible refine (HA.out _).mono ?_); rintro e w' ⟨rfl, rfl⟩)
          go_wp2_with fail
          ((with_reducible refine (HD.out _).mono ?_); rintro e w' ⟨rfl, rfl⟩)
          go_wp2
          go_ret
          exact ⟨_, rfl, hB1⟩
        · by_cases h5 : (B.length : Int) > 1025
          · clear ha
            go_enter Tryz.func19, Tryz.ntmps19
            go_wp2_with fail
            ((with_reducible refine (HS.out _).mono ?_); rintro e w1 ⟨rfl, hb1⟩)
            have hB1 := hB0.trans (hb1.mono hB0.size); clear hb1
            go_wp2_with fail
            ((with_reducible refine (HA.out _).mono ?_); rintro e w' ⟨rfl, rfl⟩)
            go_wp2_with fail
            ((with_reducible refine (HD.out _).mono ?_); rintro e w' ⟨rfl, rfl⟩)
            go_wp2
            go_ret
            exact ⟨_, rfl, hB1⟩
          · clear ha
            go_enter Tryz.func19, Tryz.ntmps19
            go_wp2_with fail
            ((with_reducible refine (HS.out _).mono ?_); rintro e w1 ⟨rfl, hb1⟩)
            have hB1 := hB0.trans (hb1.mono hB0.size); clear hb1
            go_wp2_with fail
            ((with_reducible refine (HA.out _).mono ?_); rintro e w' ⟨rfl, rfl⟩)
            go_wp2_with fail
            ((with_reducible refine (HD.out _).mono ?_); rintro e w' ⟨rfl, rfl⟩)
            go_wp2
            go_ret
            exact ⟨_, rfl, hB1⟩
      · clear ha
        go_enter Tryz.func19, Tryz.ntmps19
        go_wp2_with fail
        ((with_reducible refine (HS.out _).mono ?_); rintro e w1 ⟨rfl, hb1⟩)
        have hB1 := hB0.trans (hb1.mono hB0.size); clear hb1
        go_wp2_with fail
        ((with_reducible refine (HA.out _).mono ?_); rintro e w' ⟨rfl, rfl⟩)
        go_wp2_with fail
        ((with_reducible refine (HD.out _).mono ?_); rintro e w' ⟨rfl, rfl⟩)
        go_wp2
        go_ret
        exact ⟨_, rfl, hB1⟩
  · rw [decide_eq_false h1] at hA
    have HA := Lib.hid hA
    clear hA h1 hD
    by_cases h3 : (a.length : Int) < 5000
    · by_cases h4 : (A.length : Int) > 1025
      · clear ha
        go_enter Tryz.func19, Tryz.ntmps19
        go_wp2_with fail
        ((with_reducible refine (HS.out _).mono ?_); rintro e w1 ⟨rfl, hb1⟩)
        have hB1 := hB0.trans (hb1.mono hB0.size); clear hb1
        go_wp2_with fail
        ((with_reducible refine (HA.out _).mono ?_); rintro e w' ⟨rfl, rfl⟩)
        go_wp2
        go_ret
        exact ⟨_, rfl, hB1⟩
      · by_cases h5 : (B.length : Int) > 1025
        · clear ha
          go_enter Tryz.func19, Tryz.ntmps19
          go_wp2_with fail
          ((with_reducible refine (HS.out _).mono ?_); rintro e w1 ⟨rfl, hb1⟩)
          have hB1 := hB0.trans (hb1.mono hB0.size); clear hb1
          go_wp2_with fail
          ((with_reducible refine (HA.out _).mono ?_); rintro e w' ⟨rfl, rfl⟩)
          go_wp2
          go_ret
          exact ⟨_, rfl, hB1⟩
        · clear ha
          go_enter Tryz.func19, Tryz.ntmps19
          go_wp2_with fail
          ((with_reducible refine (HS.out _).mono ?_); rintro e w1 ⟨rfl, hb1⟩)
          have hB1 := hB0.trans (hb1.mono hB0.size); clear hb1
          go_wp2_with fail
          ((with_reducible refine (HA.out _).mono ?_); rintro e w' ⟨rfl, rfl⟩)
          go_wp2
          go_ret
          exact ⟨_, rfl, hB1⟩
    · clear ha
      go_enter Tryz.func19, Tryz.ntmps19
      go_wp2_with fail
      ((with_reducible refine (HS.out _).mono ?_); rintro e w1 ⟨rfl, hb1⟩)
      have hB1 := hB0.trans (hb1.mono hB0.size); clear hb1
      go_wp2_with fail
      ((with_reducible refine (HA.out _).mono ?_); rintro e w' ⟨rfl, rfl⟩)
      go_wp2
      go_ret
      exact ⟨_, rfl, hB1⟩
end Go.Proofs.Wk
