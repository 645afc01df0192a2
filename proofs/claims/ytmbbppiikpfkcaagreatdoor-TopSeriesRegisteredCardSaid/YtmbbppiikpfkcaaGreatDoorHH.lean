/- THE PROGRAM's RATIONAL NUMBERS: sums, differences, products and quotients of two texts. -/
import Derived.Test.YtmbbppiikpfkcaaGreatDoorHG
import Derived.Test.YtmbbppiikpfkcaaGreatDoorHE
namespace Go.Proofs.Wk
open Go.RowKit Mt

/-- A call that keeps the state in block g. -/
def Svs (w0 : World) (g : Nat) (s : Bool) (v : Value) (e : Ending) (w' : World) : Prop := e = .returned v ∧ Sv w0 g s w'
theorem Sts.svs {w0 W w' : World} {g : Nat} {s t : Bool} {v : Value} {e : Ending} (S : Sv w0 g t W) (h : Sts W g s v e w') : Svs w0 g s v e w' := ⟨h.1, S.step h.2.1 h.2.2⟩
theorem Sv.alloc {w0 W : World} {g : Nat} {s : Bool} (S : Sv w0 g s W) (o : Obj) : Sv w0 g s (W.alloc o) := S.later ((Below.refl _ _).alloc (Nat.le_refl _) o)
theorem subL (x y : Int) (g : Nat) (s : Bool) (w0 W : World) (S : Sv w0 g s W) (hx : x.natAbs < big) (hy : y.natAbs < big) :
    Calls Tryz.prog 119 #[.pointer (some ⟨g, 0, none⟩), .string ⟨(Lib.itoa x).toArray⟩, .string ⟨(Lib.itoa y).toArray⟩] W (Svs w0 g (dk (x - y) s).2 (.string ⟨(Lib.itoa (dk (x - y) s).1).toArray⟩)) :=
  (sub_c x y g s W S.st S.gd hx hy).mono fun _ _ h => h.svs S
theorem lowL (m n : Int) (g : Nat) (w0 W : World) (S : Sv w0 g true W) (hm : m.natAbs < big) (hn : n.natAbs < big) (h0 : n ≠ 0) :
    Calls Tryz.prog 71 #[.pointer (some ⟨g, 0, none⟩), .string ⟨(Lib.itoa m).toArray⟩, .string ⟨(Lib.itoa n).toArray⟩] W (Svs w0 g true (.string ⟨(rtoa (Rat.divInt m n)).toArray⟩)) :=
  (lowest_c m n g W S.st S.gd hm hn h0).mono fun _ _ h => h.svs S

/-! ### the terms -/
theorem one_big : (1 : Int).natAbs < big := by have := one_lt_big'; simpa using this
theorem mulS_lng : ∀ (ns : List Int) (p : Int × Bool), p.1.natAbs < big → (mulS ns p).1.natAbs < big
  | [], _, h => h
  | _ :: t, _, _ => mulS_lng t _ (dk_lng _ _)
theorem mulS2 {a b : Int} {s : Bool} (ha : a.natAbs < big) : mulS [a, b] (1, s) = dk (a * b) s := by
  show dk ((dk (1 * a) s).1 * b) (dk (1 * a) s).2 = _
  rw [Int.one_mul]
  cases s
  · rw [dk_no, dk_no, dk_no]
  · rw [dk_ok ha]
theorem dk_bad (r : Int) (s : Bool) (h : (dk r s).2 = false) : dk r s = (0, false) := by
  unfold dk at h ⊢
  split at h
  · cases h
  · rename_i h1; rw [if_neg h1]
theorem dk_good (r : Int) (s : Bool) (h : (dk r s).2 = true) : s = true ∧ r.natAbs < big ∧ dk r s = (r, true) := by
  unfold dk at h ⊢
  split at h
  · rename_i h1; exact ⟨h1.1, h1.2, by rw [if_pos h1]⟩
  · cases h
def madeR (x y : Int) (s : Bool) : Txt × Int := if s = true then (if y = 0 then ([], 10) else (rtoa (Rat.divInt x y), 0)) else ([], 11)
def tAdd1 (n q : Int) : Int × Bool := dk (n * q) true
def tAdd2 (n p m q : Int) : Int × Bool := dk (m * p) (tAdd1 n q).2
def tAdd3 (n p m q : Int) : Int × Bool := dk ((tAdd1 n q).1 + (tAdd2 n p m q).1) (tAdd2 n p m q).2
def tAdd4 (n p m q : Int) : Int × Bool := dk (p * q) (tAdd3 n p m q).2
theorem mAdd (a b : Rat) : madeR (tAdd3 a.num a.den b.num b.den).1 (tAdd4 a.num a.den b.num b.den).1 (tAdd4 a.num a.den b.num b.den).2 = addQ a b := by
  unfold addQ madeR
  simp only [allB, List.all_cons, List.all_nil, Bool.and_true, Bool.and_eq_true, decide_eq_true_eq]
  cases h : (tAdd4 a.num a.den b.num b.den).2 with
  | true =>
    obtain ⟨h3, b4, e4⟩ := dk_good _ _ h
    obtain ⟨h2, b3, e3⟩ := dk_good _ _ h3
    obtain ⟨h1, b2, e2⟩ := dk_good _ _ h2
    obtain ⟨-, b1, e1⟩ := dk_good _ _ h1
    have e1' : (tAdd1 a.num b.den).1 = a.num * b.den := by unfold tAdd1; rw [e1]
    have e2' : (tAdd2 a.num a.den b.num b.den).1 = b.num * a.den := by unfold tAdd2; rw [e2]
    rw [e1', e2'] at b3 e3
    have e3' : (tAdd3 a.num a.den b.num b.den).1 = a.num * b.den + b.num * a.den := by unfold tAdd3; rw [e1', e2', e3]
    have e4' : (tAdd4 a.num a.den b.num b.den).1 = a.den * b.den := by unfold tAdd4; rw [e4]
    rw [if_pos rfl, e4', e3', if_neg (den2_ne a b), add_divInt, if_pos ⟨b1, b2, b4, b3⟩]
  | false =>
    rw [if_neg (by simp), if_neg]
    rintro ⟨b1, b2, b4, b3⟩
    have e1 : tAdd1 a.num b.den = (a.num * b.den, true) := dk_ok b1
    have e2 : tAdd2 a.num a.den b.num b.den = (b.num * a.den, true) := by unfold tAdd2; rw [e1]; exact dk_ok b2
    have e3 : tAdd3 a.num a.den b.num b.den = (a.num * b.den + b.num * a.den, true) := by unfold tAdd3; rw [e1, e2]; exact dk_ok b3
    have e4 : tAdd4 a.num a.den b.num b.den = ((a.den : Int) * b.den, true) := by unfold tAdd4; rw [e3]; exact dk_ok b4
    rw [e4] at h; cases h
def tSub1 (n q : Int) : Int × Bool := dk (n * q) true
def tSub2 (n p m q : Int) : Int × Bool := dk (m * p) (tSub1 n q).2
def tSub3 (n p m q : Int) : Int × Bool := dk ((tSub1 n q).1 - (tSub2 n p m q).1) (tSub2 n p m q).2
def tSub4 (n p m q : Int) : Int × Bool := dk (p * q) (tSub3 n p m q).2
theorem mSub (a b : Rat) : madeR (tSub3 a.num a.den b.num b.den).1 (tSub4 a.num a.den b.num b.den).1 (tSub4 a.num a.den b.num b.den).2 = subQ a b := by
  unfold subQ madeR
  simp only [allB, List.all_cons, List.all_nil, Bool.and_true, Bool.and_eq_true, decide_eq_true_eq]
  cases h : (tSub4 a.num a.den b.num b.den).2 with
  | true =>
    obtain ⟨h3, b4, e4⟩ := dk_good _ _ h
    obtain ⟨h2, b3, e3⟩ := dk_good _ _ h3
    obtain ⟨h1, b2, e2⟩ := dk_good _ _ h2
    obtain ⟨-, b1, e1⟩ := dk_good _ _ h1
    have e1' : (tSub1 a.num b.den).1 = a.num * b.den := by unfold tSub1; rw [e1]
    have e2' : (tSub2 a.num a.den b.num b.den).1 = b.num * a.den := by unfold tSub2; rw [e2]
    rw [e1', e2'] at b3 e3
    have e3' : (tSub3 a.num a.den b.num b.den).1 = a.num * b.den - b.num * a.den := by unfold tSub3; rw [e1', e2', e3]
    have e4' : (tSub4 a.num a.den b.num b.den).1 = a.den * b.den := by unfold tSub4; rw [e4]
    rw [if_pos rfl, e4', e3', if_neg (den2_ne a b), sub_divInt, if_pos ⟨b1, b2, b4, b3⟩]
  | false =>
    rw [if_neg (by simp), if_neg]
    rintro ⟨b1, b2, b4, b3⟩
    have e1 : tSub1 a.num b.den = (a.num * b.den, true) := dk_ok b1
    have e2 : tSub2 a.num a.den b.num b.den = (b.num * a.den, true) := by unfold tSub2; rw [e1]; exact dk_ok b2
    have e3 : tSub3 a.num a.den b.num b.den = (a.num * b.den - b.num * a.den, true) := by unfold tSub3; rw [e1, e2]; exact dk_ok b3
    have e4 : tSub4 a.num a.den b.num b.den = ((a.den : Int) * b.den, true) := by unfold tSub4; rw [e3]; exact dk_ok b4
    rw [e4] at h; cases h
def tMul1 (n m : Int) : Int × Bool := dk (n * m) true
def tMul2 (n p m q : Int) : Int × Bool := dk (p * q) (tMul1 n m).2
theorem mMul (a b : Rat) : madeR (tMul1 a.num b.num).1 (tMul2 a.num a.den b.num b.den).1 (tMul2 a.num a.den b.num b.den).2 = mulQ a b := by
  unfold mulQ madeR
  simp only [allB, List.all_cons, List.all_nil, Bool.and_true, Bool.and_eq_true, decide_eq_true_eq]
  cases h : (tMul2 a.num a.den b.num b.den).2 with
  | true =>
    obtain ⟨h1, b2, e2⟩ := dk_good _ _ h
    obtain ⟨-, b1, e1⟩ := dk_good _ _ h1
    have e1' : (tMul1 a.num b.num).1 = a.num * b.num := by unfold tMul1; rw [e1]
    have e2' : (tMul2 a.num a.den b.num b.den).1 = a.den * b.den := by unfold tMul2; rw [e2]
    rw [if_pos rfl, e2', e1', if_neg (den2_ne a b), mul_divInt, if_pos ⟨b2, b1⟩]
  | false =>
    rw [if_neg (by simp), if_neg]
    rintro ⟨b2, b1⟩
    have e1 : tMul1 a.num b.num = (a.num * b.num, true) := dk_ok b1
    have e2 : tMul2 a.num a.den b.num b.den = ((a.den : Int) * b.den, true) := by unfold tMul2; rw [e1]; exact dk_ok b2
    rw [e2] at h; cases h
def tDiv1 (n q : Int) : Int × Bool := dk (n * q) true
def tDiv2 (n p m q : Int) : Int × Bool := dk (p * m) (tDiv1 n q).2
theorem mDiv (a b : Rat) (h0 : b ≠ 0) : madeR (tDiv1 a.num b.den).1 (tDiv2 a.num a.den b.num b.den).1 (tDiv2 a.num a.den b.num b.den).2 = divQ a b := by
  unfold divQ madeR
  rw [if_neg h0]
  simp only [allB, List.all_cons, List.all_nil, Bool.and_true, Bool.and_eq_true, decide_eq_true_eq]
  cases h : (tDiv2 a.num a.den b.num b.den).2 with
  | true =>
    obtain ⟨h1, b2, e2⟩ := dk_good _ _ h
    obtain ⟨-, b1, e1⟩ := dk_good _ _ h1
    have e1' : (tDiv1 a.num b.den).1 = a.num * b.den := by unfold tDiv1; rw [e1]
    have e2' : (tDiv2 a.num a.den b.num b.den).1 = a.den * b.num := by unfold tDiv2; rw [e2]
    rw [if_pos rfl, e2', e1', if_neg (Int.mul_ne_zero (den_ne a) (fun e => h0 (Rat.num_eq_zero.1 e))), div_divInt, if_pos ⟨b1, b2⟩]
  | false =>
    rw [if_neg (by simp), if_neg]
    rintro ⟨b1, b2⟩
    have e1 : tDiv1 a.num b.den = (a.num * b.den, true) := dk_ok b1
    have e2 : tDiv2 a.num a.den b.num b.den = ((a.den : Int) * b.num, true) := by unfold tDiv2; rw [e1]; exact dk_ok b2
    rw [e2] at h; cases h
end Go.Proofs.Wk
/- THE PROGRAM's RATIONAL NUMBERS: sums, differences, products and quotients of texts. -/
namespace Go.Proofs.Wk
open Go.RowKit Mt

theorem itoa_is_zero {n : Int} : (Lib.itoa n == [48]) = decide (n = 0) := by
  by_cases h : n = 0
  · subst h; rw [itoa_zero]; rfl
  · rw [decide_eq_false h, beq_eq_false_iff_ne, ← itoa_zero]
    exact fun e => h (itoa_inj e)
theorem SlS.two (w : World) (a b : Txt) (t : TypeId) : SlS (w.alloc (.cells #[.string ⟨a.toArray⟩, .string ⟨b.toArray⟩] t)) (.slice (some ⟨w.heap.size, 0, none⟩) 2 2) [a, b] :=
  .inr ⟨w.heap.size, 0, 2, rfl, RS.lit w [a, b] t, alloc_lt w _⟩
theorem Sv.new (w : World) (hG : Good w) : Sv (w.alloc (.cells #[.int .i64 0] 125)) w.heap.size true (w.alloc (.cells #[.int .i64 0] 125)) :=
  ⟨heap_alloc_new w _, gb_refl _ _, ⟨w, hG, Nat.le_refl _, (Below.refl _ _).alloc (Nat.le_refl _) _⟩⟩
theorem Sv.below {w0 W w' : World} {s : Bool} {B : Nat} (h : Sv (W.alloc (.cells #[.int .i64 0] 125)) W.heap.size s w') (hb : Below B w0 W) (hB : B ≤ W.heap.size) : Below B w0 w' :=
  (hb.alloc hB _).trans (gb_below h.gr hB (Nat.le_trans hB (Nat.le_of_lt (alloc_lt W _))))
theorem okQ.nb {q : Rat} (h : okQ q) : q.num.natAbs < big := h.1
theorem okQ.db {q : Rat} (h : okQ q) : (q.den : Int).natAbs < big := by have := h.2; simpa using this
theorem list2_le {a b : Txt} (ha : a.length ≤ 140737488355328) (hb : b.length ≤ 140737488355328) : ∀ l ∈ [a, b], l.length ≤ 140737488355328 := by
  intro l hl; simp at hl; rcases hl with rfl | rfl <;> assumption
end Go.Proofs.Wk
