/- THE REFERENCE's RATIONAL NUMBERS: signs, checked sums, differences, products, quotients. -/
import Derived.Test.YtenoganbeccanaaGreatDoorHD
import Derived.Test.YtenoganbeccanaaGreatDoorGN
namespace Go.Proofs.Wk
open Go.RowKit Mt

theorem lng_0 : lng (0 : Int) ≤ 1 := (lng_le 0 (k := 1) (by omega)).2 (by decide)
end Go.Proofs.Wk
/- THE REFERENCE's RATIONAL NUMBERS: checked sums, differences, products, quotients and the order of texts. -/
namespace Go.Proofs.Wk
open Go.RowKit Mt

theorem RS.drew {w : World} {b off : Nat} {ls : List Txt} (h : RS w b off ls) : RS w.drew b off ls := fun j hj => h j hj
theorem RS.single (w : World) (a : Txt) (t : TypeId) : RS (w.alloc (.cells #[.string ⟨a.toArray⟩] t)) w.heap.size 0 [a] := RS.lit w [a] t
theorem RS.drewN {w : World} {b off : Nat} {ls : List Txt} (h : RS w b off ls) (k : Nat) : RS (w.drewN k) b off ls := fun j hj => h j hj
theorem RS.pre3 {w : World} {b : Nat} {t1 t2 t3 t4 t5 : Txt} (h : RS w b 0 [t1, t2, t3, t4, t5]) : RS w b 0 [t1, t2, t3] := fun j hj =>
  match j, hj with
  | 0, _ => h 0 (by simp)
  | 1, _ => h 1 (by simp)
  | 2, _ => h 2 (by simp)
theorem RS.pre2 {w : World} {b : Nat} {t1 t2 t3 t4 t5 : Txt} (h : RS w b 0 [t1, t2, t3, t4, t5]) : RS w b 0 [t1, t2] := fun j hj =>
  match j, hj with
  | 0, _ => h 0 (by simp)
  | 1, _ => h 1 (by simp)
theorem RS.mid2 {w : World} {b : Nat} {t1 t2 t3 t4 t5 : Txt} (h : RS w b 0 [t1, t2, t3, t4, t5]) : RS w b 2 [t3, t4] := fun j hj =>
  match j, hj with
  | 0, _ => h 2 (by simp)
  | 1, _ => h 3 (by simp)
theorem okQ.s19 {q : Rat} (h : okQ q) : szQ q 1900 := h.sz.mono (by omega)
theorem tlen {q : Rat} (h : okQ q) : (rtoa q).length ≤ 140737488355328 := by
  have h1 := lng_itoa q.num; have h2 := lng_itoa (q.den : Int); have := h.sz.1; have := h.sz.2
  unfold rtoa
  split
  · omega
  · rw [List.length_append, List.length_cons]; omega
end Go.Proofs.Wk
/- THE REFERENCE's RATIONAL NUMBERS: parts, signs, opposites, floors; quotients of integers; what is short. -/
namespace Go.Proofs.Wk
open Go.RowKit Mt

theorem itoa_is_zero' {n : Int} : (Lib.itoa n == [48]) = decide (n = 0) := by
  by_cases h : n = 0
  · subst h; rw [itoa_zero]; rfl
  · rw [decide_eq_false h, beq_eq_false_iff_ne, ← itoa_zero]
    exact fun e => h (itoa_inj e)
theorem lng_i64q {m : Int} (h0 : -9223372036854775808 ≤ m) (h1 : m ≤ 9223372036854775807) : lng m ≤ 19 := by
  have : lng m ≤ lng (9223372036854775808 : Int) := lng_mono (by omega)
  have h2 : lng (9223372036854775808 : Int) ≤ 19 := (lng_le _ (by omega)).2 (by decide)
  omega
def negQ (p : Rat) : Txt × Int := (rtoa (-p), 0)
def floorQ (p : Rat) : Txt × Int := (Lib.itoa (p.num.fdiv p.den), 0)
def signQ (p : Rat) : Int × Int := (sgnQ p, 0)
def partQ (p : Rat) : (Txt × Txt) × Int := ((Lib.itoa p.num, Lib.itoa (p.den : Int)), 0)
abbrev ans3p (r : (Txt × Txt) × Int) : Value := .tuple #[.string ⟨r.1.1.toArray⟩, .string ⟨r.1.2.toArray⟩, .int .i64 r.2]
/-- The quotient of two texts of integers. -/
def mk2 (a b : Txt) : Txt × Int := if both a b = 0 then makQ (val a) (val b) else ([], both a b)
theorem mk2_itoa {m n : Int} (hm : m.natAbs < big) (hn : n.natAbs < big) : mk2 (Lib.itoa m) (Lib.itoa n) = makQ m n := by
  unfold mk2; rw [if_pos (both_ok hm hn), val_itoa, val_itoa]
set_option maxRecDepth 100000 in
theorem rWhole_q (m : Int) (w : World) (m0 : -9223372036854775808 ≤ m) (m1 : m ≤ 9223372036854775807) : Calls Tryz.prog 42 #[.int .i64 m] w (Ret w (.string ⟨(Lib.itoa m).toArray⟩)) := by
  have HM := Lib.hid (fun W => Of_c m W m0 m1)
  have hB0 := Below.refl w.heap.size w
  clear m0 m1
  generalize Lib.itoa m = ta at *
  go_enter Tryz.func42, Tryz.ntmps42
  go_wp2_with fail
  ((with_reducible refine (HM.out _).mono ?_); rintro e w1 ⟨rfl, hb1⟩)
  have hB1 := hB0.trans (hb1.mono hB0.size); clear hb1
  go_wp2
  go_ret
  exact ⟨rfl, hB1⟩
set_option maxRecDepth 100000 in
theorem Short_c (a : Txt) (w : World) (ha : a.length ≤ 140737488355328) : Calls Tryz.prog 63 #[.string ⟨a.toArray⟩] w (Ret w (.bool (decide ((rnum a).length ≤ 30 ∧ (rden a).length ≤ 30)))) := by
  have HS := Lib.hid (fun W => Split_c a W ha)
  have hB0 := Below.refl w.heap.size w
  obtain ⟨l1, l2⟩ := rpart_le a ha (by omega)
  generalize rnum a = A at *
  generalize rden a = B at *
  clear ha
  by_cases h1 : A.length ≤ 30
  · by_cases h2 : B.length ≤ 30
    · rw [decide_eq_true ⟨h1, h2⟩]
      have h3 : (A.length : Int) ≤ 30 := by omega
      have h4 : (B.length : Int) ≤ 30 := by omega
      clear h1 h2
      go_enter Tryz.func63, Tryz.ntmps63
      go_wp2_with fail
      ((with_reducible refine (HS.out _).mono ?_); rintro e w1 ⟨rfl, hb1⟩)
      have hB1 := hB0.trans (hb1.mono hB0.size); clear hb1
      go_wp2
      go_ret
      exact ⟨rfl, hB1⟩
    · rw [decide_eq_false (fun e => h2 e.2)]
      have h3 : (A.length : Int) ≤ 30 := by omega
      have h4 : decide ((B.length : Int) ≤ 30) = false := decide_eq_false (by omega)
      clear h1 h2
      go_enter Tryz.func63, Tryz.ntmps63
      go_wp2_with fail
      ((with_reducible refine (HS.out _).mono ?_); rintro e w1 ⟨rfl, hb1⟩)
      have hB1 := hB0.trans (hb1.mono hB0.size); clear hb1
      go_wp2
      go_ret
      exact ⟨rfl, hB1⟩
  · rw [decide_eq_false (fun e => h1 e.1)]
    have h3 : decide ((A.length : Int) ≤ 30) = false := decide_eq_false (by omega)
    clear h1
    go_enter Tryz.func63, Tryz.ntmps63
    go_wp2_with fail
    ((with_reducible refine (HS.out _).mono ?_); rintro e w1 ⟨rfl, hb1⟩)
    have hB1 := hB0.trans (hb1.mono hB0.size); clear hb1
    go_wp2
    go_ret
    exact ⟨rfl, hB1⟩
set_option maxRecDepth 100000 in
theorem FewInt_c (a : Txt) (w : World) : Calls Tryz.prog 114 #[.string ⟨a.toArray⟩] w (Pur w (.bool (decide (a.length ≤ 120)))) := by
  by_cases h1 : a.length ≤ 120
  · rw [decide_eq_true h1]
    have h3 : (a.length : Int) ≤ 120 := by omega
    clear h1
    go_enter Tryz.func114, Tryz.ntmps114
    go_wp2
    go_ret
    exact ⟨rfl, rfl⟩
  · rw [decide_eq_false h1]
    have h3 : decide ((a.length : Int) ≤ 120) = false := decide_eq_false (by omega)
    clear h1
    go_enter Tryz.func114, Tryz.ntmps114
    go_wp2
    go_ret
    exact ⟨rfl, rfl⟩
/-- A call that returns one of the two Bools. -/
def Ask (w : World) (e : Ending) (w' : World) : Prop := ∃ b, e = .returned (.bool b) ∧ Below w.heap.size w w'
set_option maxRecDepth 100000 in
theorem Few_q (a : Txt) (w : World) (ha : a.length ≤ 140737488355328) : Calls Tryz.prog 54 #[.string ⟨a.toArray⟩] w (Ask w) := by
  have HS := Lib.hid (fun W => Split_c a W ha)
  have hB0 := Below.refl w.heap.size w
  have hA := fun W => FewInt_c (rnum a) W
  have hD := fun W => FewInt_c (rden a) W
  obtain ⟨l1, l2⟩ := rpart_le a ha (by omega)
  generalize rnum a = A at *
  generalize rden a = B at *
  by_cases h1 : A.length ≤ 120
  · rw [decide_eq_true h1] at hA
    have HA := Lib.hid hA
    clear hA
    by_cases h2 : B.length ≤ 120
    · rw [decide_eq_true h2] at hD
      have HD := Lib.hid hD
      clear hD h1 h2
      clear ha
      go_enter Tryz.func54, Tryz.ntmps54
      go_wp2_with fail
      ((with_reducible refine (HS.out _).mono ?_); rintro e w1 ⟨rfl, hb1⟩)
      have hB1 := hB0.trans (hb1.mono hB0.size); clear hb1
      go_wp2_with fail
      ((with_reducible refine (HA.out _).mono ?_); rintro e w' ⟨rfl, rfl⟩)
      go_wp2_with fail
      ((with_reducible refine (HD.out _).mono ?_); rintro e w' ⟨rfl, rfl⟩)
      go_wp2
      go_ret
      exact ⟨_, rfl, hB1⟩
    · rw [decide_eq_false h2] at hD
      have HD := Lib.hid hD
      clear hD h1 h2
      by_cases h3 : (a.length : Int) < 5000
      · by_cases h4 : (A.length : Int) > 1025
        · clear ha
          go_enter Tryz.func54, Tryz.ntmps54
          go_wp2_with fail
          ((with_reducible refine (HS.out _).mono ?_); rintro e w1 ⟨rfl, hb1⟩)
          have hB1 := hB0.trans (hb1.mono hB0.size); clear hb1
          go_wp2_with fail
          ((with_reducible refine (HA.out _).mono ?_); rintro e w' ⟨rfl, rfl⟩)
          go_wp2_with fail
          ((with_reducible refine (HD.out _).mono ?_); rintro e w' ⟨rfl, rfl⟩)
          go_wp2
          go_ret
          exact ⟨_, rfl, hB1⟩
        · by_cases h5 : (B.length : Int) > 1025
          · clear ha
            go_enter Tryz.func54, Tryz.ntmps54
            go_wp2_with fail
            ((with_reducible refine (HS.out _).mono ?_); rintro e w1 ⟨rfl, hb1⟩)
            have hB1 := hB0.trans (hb1.mono hB0.size); clear hb1
            go_wp2_with fail
            ((with_reducible refine (HA.out _).mono ?_); rintro e w' ⟨rfl, rfl⟩)
            go_wp2_with fail
            ((with_reducible refine (HD.out _).mono ?_); rintro e w' ⟨rfl, rfl⟩)
            go_wp2
            go_ret
            exact ⟨_, rfl, hB1⟩
          · clear ha
            go_enter Tryz.func54, Tryz.ntmps54
            go_wp2_with fail
            ((with_reducible refine (HS.out _).mono ?_); rintro e w1 ⟨rfl, hb1⟩)
            have hB1 := hB0.trans (hb1.mono hB0.size); clear hb1
            go_wp2_with fail
            ((with_reducible refine (HA.out _).mono ?_); rintro e w' ⟨rfl, rfl⟩)
            go_wp2_with fail
            ((with_reducible refine (HD.out _).mono ?_); rintro e w' ⟨rfl, rfl⟩)
            go_wp2
            go_ret
            exact ⟨_, rfl, hB1⟩
      · clear ha
        go_enter Tryz.func54, Tryz.ntmps54
        go_wp2_with fail
        ((with_reducible refine (HS.out _).mono ?_); rintro e w1 ⟨rfl, hb1⟩)
        have hB1 := hB0.trans (hb1.mono hB0.size); clear hb1
        go_wp2_with fail
        ((with_reducible refine (HA.out _).mono ?_); rintro e w' ⟨rfl, rfl⟩)
        go_wp2_with fail
        ((with_reducible refine (HD.out _).mono ?_); rintro e w' ⟨rfl, rfl⟩)
        go_wp2
        go_ret
        exact ⟨_, rfl, hB1⟩
  · rw [decide_eq_false h1] at hA
    have HA := Lib.hid hA
    clear hA h1 hD
    by_cases h3 : (a.length : Int) < 5000
    · by_cases h4 : (A.length : Int) > 1025
      · clear ha
        go_enter Tryz.func54, Tryz.ntmps54
        go_wp2_with fail
        ((with_reducible refine (HS.out _).mono ?_); rintro e w1 ⟨rfl, hb1⟩)
        have hB1 := hB0.trans (hb1.mono hB0.size); clear hb1
        go_wp2_with fail
        ((with_reducible refine (HA.out _).mono ?_); rintro e w' ⟨rfl, rfl⟩)
        go_wp2
        go_ret
        exact ⟨_, rfl, hB1⟩
      · by_cases h5 : (B.length : Int) > 1025
        · clear ha
          go_enter Tryz.func54, Tryz.ntmps54
          go_wp2_with fail
          ((with_reducible refine (HS.out _).mono ?_); rintro e w1 ⟨rfl, hb1⟩)
          have hB1 := hB0.trans (hb1.mono hB0.size); clear hb1
          go_wp2_with fail
          ((with_reducible refine (HA.out _).mono ?_); rintro e w' ⟨rfl, rfl⟩)
          go_wp2
          go_ret
          exact ⟨_, rfl, hB1⟩
        · clear ha
          go_enter Tryz.func54, Tryz.ntmps54
          go_wp2_with fail
          ((with_reducible refine (HS.out _).mono ?_); rintro e w1 ⟨rfl, hb1⟩)
          have hB1 := hB0.trans (hb1.mono hB0.size); clear hb1
          go_wp2_with fail
          ((with_reducible refine (HA.out _).mono ?_); rintro e w' ⟨rfl, rfl⟩)
          go_wp2
          go_ret
          exact ⟨_, rfl, hB1⟩
    · clear ha
      go_enter Tryz.func54, Tryz.ntmps54
      go_wp2_with fail
      ((with_reducible refine (HS.out _).mono ?_); rintro e w1 ⟨rfl, hb1⟩)
      have hB1 := hB0.trans (hb1.mono hB0.size); clear hb1
      go_wp2_with fail
      ((with_reducible refine (HA.out _).mono ?_); rintro e w' ⟨rfl, rfl⟩)
      go_wp2
      go_ret
      exact ⟨_, rfl, hB1⟩
end Go.Proofs.Wk
