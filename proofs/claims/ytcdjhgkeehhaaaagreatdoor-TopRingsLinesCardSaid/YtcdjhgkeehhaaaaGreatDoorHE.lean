/- THE REFERENCE's RATIONAL NUMBERS: signs, checked sums, differences, products, quotients. -/
import Derived.Test.YtcdjhgkeehhaaaaGreatDoorHD
import Derived.Test.YtcdjhgkeehhaaaaGreatDoorGN
namespace Go.Proofs.Wk
open Go.RowKit Mt

theorem lng_0 : lng (0 : Int) ≤ 1 := (lng_le 0 (k := 1) (by omega)).2 (by decide)
end Go.Proofs.Wk
/- THE REFERENCE's RATIONAL NUMBERS: checked sums, differences, products, quotients and the order of texts. -/
namespace Go.Proofs.Wk
open Go.RowKit Mt

theorem RS.drew {w : World} {b off : Nat} {ls : List Txt} (h : RS w b off ls) : RS w.drew b off ls := fun j hj => h j hj
theorem RS.single (w : World) (a : Txt) (t : TypeId) : RS (w.alloc (.cells #[.string ⟨a.toArray⟩] t)) w.heap.size 0 [a] := RS.lit w [a] t
theorem RS.drewN {w : World} {b off : Nat} {ls : List Txt} (h : RS w b off ls) (k : Nat) : RS (w.drewN k) b off ls := fun j hj => h j hj
theorem RS.pre3 {w : World} {b : Nat} {t1 t2 t3 t4 t5 : Txt} (h : RS w b 0 [t1, t2, t3, t4, t5]) : RS w b 0 [t1, t2, t3] := fun j hj =>
  match j, hj with
  | 0, _ => h 0 (by simp)
  | 1, _ => h 1 (by simp)
  | 2, _ => h 2 (by simp)
theorem RS.pre2 {w : World} {b : Nat} {t1 t2 t3 t4 t5 : Txt} (h : RS w b 0 [t1, t2, t3, t4, t5]) : RS w b 0 [t1, t2] := fun j hj =>
  match j, hj with
  | 0, _ => h 0 (by simp)
  | 1, _ => h 1 (by simp)
theorem RS.mid2 {w : World} {b : Nat} {t1 t2 t3 t4 t5 : Txt} (h : RS w b 0 [t1, t2, t3, t4, t5]) : RS w b 2 [t3, t4] := fun j hj =>
  match j, hj with
  | 0, _ => h 2 (by simp)
  | 1, _ => h 3 (by simp)
theorem okQ.s19 {q : Rat} (h : okQ q) : szQ q 1900 := h.sz.mono (by omega)
theorem tlen {q : Rat} (h : okQ q) : (rtoa q).length ≤ 140737488355328 := by
  have h1 := lng_itoa q.num; have h2 := lng_itoa (q.den : Int); have := h.sz.1; have := h.sz.2
  unfold rtoa
  split
  · omega
  · rw [List.length_append, List.length_cons]; omega
end Go.Proofs.Wk
/- THE REFERENCE's RATIONAL NUMBERS: parts, signs, opposites, floors; quotients of integers; what is short. -/
namespace Go.Proofs.Wk
open Go.RowKit Mt

theorem itoa_is_zero' {n : Int} : (Lib.itoa n == [48]) = decide (n = 0) := by
  by_cases h : n = 0
  · subst h; rw [itoa_zero]; rfl
  · rw [decide_eq_false h, beq_eq_false_iff_ne, ← itoa_zero]
    exact fun e => h (itoa_inj e)
theorem lng_i64q {m : Int} (h0 : -9223372036854775808 ≤ m) (h1 : m ≤ 9223372036854775807) : lng m ≤ 19 := by
  have : lng m ≤ lng (9223372036854775808 : Int) := lng_mono (by omega)
  have h2 : lng (9223372036854775808 : Int) ≤ 19 := (lng_le _ (by omega)).2 (by decide)
  omega
def negQ (p : Rat) : Txt × Int := (rtoa (-p), 0)
def floorQ (p : Rat) : Txt × Int := (Lib.itoa (p.num.fdiv p.den), 0)
def signQ (p : Rat) : Int × Int := (sgnQ p, 0)
def partQ (p : Rat) : (Txt × Txt) × Int := ((Lib.itoa p.num, Lib.itoa (p.den : Int)), 0)
abbrev ans3p (r : (Txt × Txt) × Int) : Value := .tuple #[.string ⟨r.1.1.toArray⟩, .string ⟨r.1.2.toArray⟩, .int .i64 r.2]
/-- The quotient of two texts of integers. -/
def mk2 (a b : Txt) : Txt × Int := if both a b = 0 then makQ (val a) (val b) else ([], both a b)
theorem mk2_itoa {m n : Int} (hm : m.natAbs < big) (hn : n.natAbs < big) : mk2 (Lib.itoa m) (Lib.itoa n) = makQ m n := by
  unfold mk2; rw [if_pos (both_ok hm hn), val_itoa, val_itoa]
end Go.Proofs.Wk
