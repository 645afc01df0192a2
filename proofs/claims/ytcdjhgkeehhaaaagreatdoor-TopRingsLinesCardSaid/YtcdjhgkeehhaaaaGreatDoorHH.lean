/- THE PROGRAM's RATIONAL NUMBERS: sums, differences, products and quotients of two texts. -/
import Derived.Test.YtcdjhgkeehhaaaaGreatDoorHG
import Derived.Test.YtcdjhgkeehhaaaaGreatDoorHE
namespace Go.Proofs.Wk
open Go.RowKit Mt

/-- A call that keeps the state in block g. -/
def Svs (w0 : World) (g : Nat) (s : Bool) (v : Value) (e : Ending) (w' : World) : Prop := e = .returned v ∧ Sv w0 g s w'
theorem Sts.svs {w0 W w' : World} {g : Nat} {s t : Bool} {v : Value} {e : Ending} (S : Sv w0 g t W) (h : Sts W g s v e w') : Svs w0 g s v e w' := ⟨h.1, S.step h.2.1 h.2.2⟩
theorem Sv.alloc {w0 W : World} {g : Nat} {s : Bool} (S : Sv w0 g s W) (o : Obj) : Sv w0 g s (W.alloc o) := S.later ((Below.refl _ _).alloc (Nat.le_refl _) o)
theorem mulL (ns : List Int) (cs : Array Value) (k g : Nat) (s : Bool) (w0 W : World) (T : TypeId) (S : Sv w0 g s W) (hcs : cs = ((ns.map Lib.itoa).map txt).toArray) (hk : ns.length = k) (hk5 : k ≤ 5) (hb : ∀ n ∈ ns, n.natAbs < big) :
    Calls Tryz.prog 19 #[.pointer (some ⟨g, 0, none⟩), .slice (some ⟨W.heap.size, 0, none⟩) k k] (W.alloc (.cells cs T)) (Svs w0 g (mulS ns (1, s)).2 (.string ⟨(Lib.itoa (mulS ns (1, s)).1).toArray⟩)) := by
  subst hk hcs
  have S1 := S.alloc (.cells ((ns.map Lib.itoa).map txt).toArray T)
  have hR := RS.lit W (ns.map Lib.itoa) T
  refine (mul_c W.heap.size 0 ns.length g s ns _ S1.st S1.gd hR (by have := S.st.lt; omega) hk5 hb).mono fun e w' h => h.svs S1
theorem addL (x y : Int) (g : Nat) (s : Bool) (w0 W : World) (S : Sv w0 g s W) (hx : x.natAbs < big) (hy : y.natAbs < big) :
    Calls Tryz.prog 150 #[.pointer (some ⟨g, 0, none⟩), .string ⟨(Lib.itoa x).toArray⟩, .string ⟨(Lib.itoa y).toArray⟩] W (Svs w0 g (dk (x + y) s).2 (.string ⟨(Lib.itoa (dk (x + y) s).1).toArray⟩)) :=
  (add_c x y g s W S.st S.gd hx hy).mono fun _ _ h => h.svs S
theorem subL (x y : Int) (g : Nat) (s : Bool) (w0 W : World) (S : Sv w0 g s W) (hx : x.natAbs < big) (hy : y.natAbs < big) :
    Calls Tryz.prog 49 #[.pointer (some ⟨g, 0, none⟩), .string ⟨(Lib.itoa x).toArray⟩, .string ⟨(Lib.itoa y).toArray⟩] W (Svs w0 g (dk (x - y) s).2 (.string ⟨(Lib.itoa (dk (x - y) s).1).toArray⟩)) :=
  (sub_c x y g s W S.st S.gd hx hy).mono fun _ _ h => h.svs S
theorem lowL (m n : Int) (g : Nat) (w0 W : World) (S : Sv w0 g true W) (hm : m.natAbs < big) (hn : n.natAbs < big) (h0 : n ≠ 0) :
    Calls Tryz.prog 85 #[.pointer (some ⟨g, 0, none⟩), .string ⟨(Lib.itoa m).toArray⟩, .string ⟨(Lib.itoa n).toArray⟩] W (Svs w0 g true (.string ⟨(rtoa (Rat.divInt m n)).toArray⟩)) :=
  (lowest_c m n g W S.st S.gd hm hn h0).mono fun _ _ h => h.svs S

/-! ### the terms -/
theorem one_big : (1 : Int).natAbs < big := by have := one_lt_big'; simpa using this
theorem mulS_lng : ∀ (ns : List Int) (p : Int × Bool), p.1.natAbs < big → (mulS ns p).1.natAbs < big
  | [], _, h => h
  | _ :: t, _, _ => mulS_lng t _ (dk_lng _ _)
theorem mulS2 {a b : Int} {s : Bool} (ha : a.natAbs < big) : mulS [a, b] (1, s) = dk (a * b) s := by
  show dk ((dk (1 * a) s).1 * b) (dk (1 * a) s).2 = _
  rw [Int.one_mul]
  cases s
  · rw [dk_no, dk_no, dk_no]
  · rw [dk_ok ha]
theorem dk_bad (r : Int) (s : Bool) (h : (dk r s).2 = false) : dk r s = (0, false) := by
  unfold dk at h ⊢
  split at h
  · cases h
  · rename_i h1; rw [if_neg h1]
theorem dk_good (r : Int) (s : Bool) (h : (dk r s).2 = true) : s = true ∧ r.natAbs < big ∧ dk r s = (r, true) := by
  unfold dk at h ⊢
  split at h
  · rename_i h1; exact ⟨h1.1, h1.2, by rw [if_pos h1]⟩
  · cases h
def madeR (x y : Int) (s : Bool) : Txt × Int := if s = true then (if y = 0 then ([], 10) else (rtoa (Rat.divInt x y), 0)) else ([], 11)
def tAdd1 (n q : Int) : Int × Bool := dk (n * q) true
def tAdd2 (n p m q : Int) : Int × Bool := dk (m * p) (tAdd1 n q).2
def tAdd3 (n p m q : Int) : Int × Bool := dk ((tAdd1 n q).1 + (tAdd2 n p m q).1) (tAdd2 n p m q).2
def tAdd4 (n p m q : Int) : Int × Bool := dk (p * q) (tAdd3 n p m q).2
set_option maxRecDepth 100000 in
set_option maxHeartbeats 1000000 in
theorem cAdd (n p m q : Int) (g : Nat) (w : World) (S0 : Sv w g true w) (hn : n.natAbs < big) (hp : p.natAbs < big) (hm : m.natAbs < big) (hq : q.natAbs < big) :
    Calls Tryz.prog 149 #[.pointer (some ⟨g, 0, none⟩), .string ⟨(Lib.itoa n).toArray⟩, .string ⟨(Lib.itoa p).toArray⟩, .string ⟨(Lib.itoa m).toArray⟩, .string ⟨(Lib.itoa q).toArray⟩] w
      (Svs w g (tAdd4 n p m q).2 (.tuple #[.string ⟨(Lib.itoa (tAdd3 n p m q).1).toArray⟩, .string ⟨(Lib.itoa (tAdd4 n p m q).1).toArray⟩])) := by
  have h1 := fun W (S : Sv w g true W) => mulL [n, q] #[.string ⟨(Lib.itoa n).toArray⟩, .string ⟨(Lib.itoa q).toArray⟩] 2 g true w W 51 S rfl rfl (by omega) (by intro x hx; simp at hx; rcases hx with rfl | rfl <;> assumption)
  have h2 := fun s W (S : Sv w g s W) => mulL [m, p] #[.string ⟨(Lib.itoa m).toArray⟩, .string ⟨(Lib.itoa p).toArray⟩] 2 g s w W 51 S rfl rfl (by omega) (by intro x hx; simp at hx; rcases hx with rfl | rfl <;> assumption)
  have h4 := fun s W (S : Sv w g s W) => mulL [p, q] #[.string ⟨(Lib.itoa p).toArray⟩, .string ⟨(Lib.itoa q).toArray⟩] 2 g s w W 51 S rfl rfl (by omega) (by intro x hx; simp at hx; rcases hx with rfl | rfl <;> assumption)
  simp only [mulS2 hn] at h1
  simp only [mulS2 hm] at h2
  simp only [mulS2 hp] at h4
  have H1 := Lib.hid h1
  have H2 := Lib.hid (h2 (tAdd1 n q).2)
  have H3 := Lib.hid (fun W S => addL (tAdd1 n q).1 (tAdd2 n p m q).1 g (tAdd2 n p m q).2 w W S (dk_lng _ _) (dk_lng _ _))
  have H4 := Lib.hid (h4 (tAdd3 n p m q).2)
  change Hid (∀ W, Sv w g true W → Calls _ _ _ _ (Svs w g (tAdd1 n q).2 (.string ⟨(Lib.itoa (tAdd1 n q).1).toArray⟩))) at H1
  change Hid (∀ W, Sv w g (tAdd1 n q).2 W → Calls _ _ _ _ (Svs w g (tAdd2 n p m q).2 (.string ⟨(Lib.itoa (tAdd2 n p m q).1).toArray⟩))) at H2
  change Hid (∀ W, Sv w g (tAdd2 n p m q).2 W → Calls _ _ _ _ (Svs w g (tAdd3 n p m q).2 (.string ⟨(Lib.itoa (tAdd3 n p m q).1).toArray⟩))) at H3
  change Hid (∀ W, Sv w g (tAdd3 n p m q).2 W → Calls _ _ _ _ (Svs w g (tAdd4 n p m q).2 (.string ⟨(Lib.itoa (tAdd4 n p m q).1).toArray⟩))) at H4
  clear h1 h2 h4 hn hp hm hq
  generalize tAdd4 n p m q = p4 at *
  generalize tAdd3 n p m q = p3 at *
  generalize tAdd2 n p m q = p2 at *
  generalize tAdd1 n q = p1 at *
  generalize Lib.itoa n = tn at *
  generalize Lib.itoa p = tp at *
  generalize Lib.itoa m = tm at *
  generalize Lib.itoa q = tq at *
  generalize Lib.itoa p1.1 = x1 at *
  generalize Lib.itoa p2.1 = x2 at *
  generalize Lib.itoa p3.1 = x3 at *
  generalize Lib.itoa p4.1 = x4 at *
  go_enter Tryz.func149, Tryz.ntmps149
  go_wp2_with fail
  ((with_reducible refine (H1.out _ S0).mono ?_); rintro e w1 ⟨rfl, S1⟩)
  go_wp2_with fail
  ((with_reducible refine (H2.out _ S1).mono ?_); rintro e w2 ⟨rfl, S2⟩)
  go_wp2_with fail
  ((with_reducible refine (H3.out _ S2).mono ?_); rintro e w3 ⟨rfl, S3⟩)
  go_wp2_with fail
  ((with_reducible refine (H4.out _ S3).mono ?_); rintro e w4 ⟨rfl, S4⟩)
  go_wp2
  go_ret2
  exact ⟨rfl, S4⟩
theorem mAdd (a b : Rat) : madeR (tAdd3 a.num a.den b.num b.den).1 (tAdd4 a.num a.den b.num b.den).1 (tAdd4 a.num a.den b.num b.den).2 = addQ a b := by
  unfold addQ madeR
  simp only [allB, List.all_cons, List.all_nil, Bool.and_true, Bool.and_eq_true, decide_eq_true_eq]
  cases h : (tAdd4 a.num a.den b.num b.den).2 with
  | true =>
    obtain ⟨h3, b4, e4⟩ := dk_good _ _ h
    obtain ⟨h2, b3, e3⟩ := dk_good _ _ h3
    obtain ⟨h1, b2, e2⟩ := dk_good _ _ h2
    obtain ⟨-, b1, e1⟩ := dk_good _ _ h1
    have e1' : (tAdd1 a.num b.den).1 = a.num * b.den := by unfold tAdd1; rw [e1]
    have e2' : (tAdd2 a.num a.den b.num b.den).1 = b.num * a.den := by unfold tAdd2; rw [e2]
    rw [e1', e2'] at b3 e3
    have e3' : (tAdd3 a.num a.den b.num b.den).1 = a.num * b.den + b.num * a.den := by unfold tAdd3; rw [e1', e2', e3]
    have e4' : (tAdd4 a.num a.den b.num b.den).1 = a.den * b.den := by unfold tAdd4; rw [e4]
    rw [if_pos rfl, e4', e3', if_neg (den2_ne a b), add_divInt, if_pos ⟨b1, b2, b4, b3⟩]
  | false =>
    rw [if_neg (by simp), if_neg]
    rintro ⟨b1, b2, b4, b3⟩
    have e1 : tAdd1 a.num b.den = (a.num * b.den, true) := dk_ok b1
    have e2 : tAdd2 a.num a.den b.num b.den = (b.num * a.den, true) := by unfold tAdd2; rw [e1]; exact dk_ok b2
    have e3 : tAdd3 a.num a.den b.num b.den = (a.num * b.den + b.num * a.den, true) := by unfold tAdd3; rw [e1, e2]; exact dk_ok b3
    have e4 : tAdd4 a.num a.den b.num b.den = ((a.den : Int) * b.den, true) := by unfold tAdd4; rw [e3]; exact dk_ok b4
    rw [e4] at h; cases h
def tSub1 (n q : Int) : Int × Bool := dk (n * q) true
def tSub2 (n p m q : Int) : Int × Bool := dk (m * p) (tSub1 n q).2
def tSub3 (n p m q : Int) : Int × Bool := dk ((tSub1 n q).1 - (tSub2 n p m q).1) (tSub2 n p m q).2
def tSub4 (n p m q : Int) : Int × Bool := dk (p * q) (tSub3 n p m q).2
set_option maxRecDepth 100000 in
set_option maxHeartbeats 1000000 in
theorem cSub (n p m q : Int) (g : Nat) (w : World) (S0 : Sv w g true w) (hn : n.natAbs < big) (hp : p.natAbs < big) (hm : m.natAbs < big) (hq : q.natAbs < big) :
    Calls Tryz.prog 48 #[.pointer (some ⟨g, 0, none⟩), .string ⟨(Lib.itoa n).toArray⟩, .string ⟨(Lib.itoa p).toArray⟩, .string ⟨(Lib.itoa m).toArray⟩, .string ⟨(Lib.itoa q).toArray⟩] w
      (Svs w g (tSub4 n p m q).2 (.tuple #[.string ⟨(Lib.itoa (tSub3 n p m q).1).toArray⟩, .string ⟨(Lib.itoa (tSub4 n p m q).1).toArray⟩])) := by
  have h1 := fun W (S : Sv w g true W) => mulL [n, q] #[.string ⟨(Lib.itoa n).toArray⟩, .string ⟨(Lib.itoa q).toArray⟩] 2 g true w W 51 S rfl rfl (by omega) (by intro x hx; simp at hx; rcases hx with rfl | rfl <;> assumption)
  have h2 := fun s W (S : Sv w g s W) => mulL [m, p] #[.string ⟨(Lib.itoa m).toArray⟩, .string ⟨(Lib.itoa p).toArray⟩] 2 g s w W 51 S rfl rfl (by omega) (by intro x hx; simp at hx; rcases hx with rfl | rfl <;> assumption)
  have h4 := fun s W (S : Sv w g s W) => mulL [p, q] #[.string ⟨(Lib.itoa p).toArray⟩, .string ⟨(Lib.itoa q).toArray⟩] 2 g s w W 51 S rfl rfl (by omega) (by intro x hx; simp at hx; rcases hx with rfl | rfl <;> assumption)
  simp only [mulS2 hn] at h1
  simp only [mulS2 hm] at h2
  simp only [mulS2 hp] at h4
  have H1 := Lib.hid h1
  have H2 := Lib.hid (h2 (tSub1 n q).2)
  have H3 := Lib.hid (fun W S => subL (tSub1 n q).1 (tSub2 n p m q).1 g (tSub2 n p m q).2 w W S (dk_lng _ _) (dk_lng _ _))
  have H4 := Lib.hid (h4 (tSub3 n p m q).2)
  change Hid (∀ W, Sv w g true W → Calls _ _ _ _ (Svs w g (tSub1 n q).2 (.string ⟨(Lib.itoa (tSub1 n q).1).toArray⟩))) at H1
  change Hid (∀ W, Sv w g (tSub1 n q).2 W → Calls _ _ _ _ (Svs w g (tSub2 n p m q).2 (.string ⟨(Lib.itoa (tSub2 n p m q).1).toArray⟩))) at H2
  change Hid (∀ W, Sv w g (tSub2 n p m q).2 W → Calls _ _ _ _ (Svs w g (tSub3 n p m q).2 (.string ⟨(Lib.itoa (tSub3 n p m q).1).toArray⟩))) at H3
  change Hid (∀ W, Sv w g (tSub3 n p m q).2 W → Calls _ _ _ _ (Svs w g (tSub4 n p m q).2 (.string ⟨(Lib.itoa (tSub4 n p m q).1).toArray⟩))) at H4
  clear h1 h2 h4 hn hp hm hq
  generalize tSub4 n p m q = p4 at *
  generalize tSub3 n p m q = p3 at *
  generalize tSub2 n p m q = p2 at *
  generalize tSub1 n q = p1 at *
  generalize Lib.itoa n = tn at *
  generalize Lib.itoa p = tp at *
  generalize Lib.itoa m = tm at *
  generalize Lib.itoa q = tq at *
  generalize Lib.itoa p1.1 = x1 at *
  generalize Lib.itoa p2.1 = x2 at *
  generalize Lib.itoa p3.1 = x3 at *
  generalize Lib.itoa p4.1 = x4 at *
  go_enter Tryz.func48, Tryz.ntmps48
  go_wp2_with fail
  ((with_reducible refine (H1.out _ S0).mono ?_); rintro e w1 ⟨rfl, S1⟩)
  go_wp2_with fail
  ((with_reducible refine (H2.out _ S1).mono ?_); rintro e w2 ⟨rfl, S2⟩)
  go_wp2_with fail
  ((with_reducible refine (H3.out _ S2).mono ?_); rintro e w3 ⟨rfl, S3⟩)
  go_wp2_with fail
  ((with_reducible refine (H4.out _ S3).mono ?_); rintro e w4 ⟨rfl, S4⟩)
  go_wp2
  go_ret2
  exact ⟨rfl, S4⟩
theorem mSub (a b : Rat) : madeR (tSub3 a.num a.den b.num b.den).1 (tSub4 a.num a.den b.num b.den).1 (tSub4 a.num a.den b.num b.den).2 = subQ a b := by
  unfold subQ madeR
  simp only [allB, List.all_cons, List.all_nil, Bool.and_true, Bool.and_eq_true, decide_eq_true_eq]
  cases h : (tSub4 a.num a.den b.num b.den).2 with
  | true =>
    obtain ⟨h3, b4, e4⟩ := dk_good _ _ h
    obtain ⟨h2, b3, e3⟩ := dk_good _ _ h3
    obtain ⟨h1, b2, e2⟩ := dk_good _ _ h2
    obtain ⟨-, b1, e1⟩ := dk_good _ _ h1
    have e1' : (tSub1 a.num b.den).1 = a.num * b.den := by unfold tSub1; rw [e1]
    have e2' : (tSub2 a.num a.den b.num b.den).1 = b.num * a.den := by unfold tSub2; rw [e2]
    rw [e1', e2'] at b3 e3
    have e3' : (tSub3 a.num a.den b.num b.den).1 = a.num * b.den - b.num * a.den := by unfold tSub3; rw [e1', e2', e3]
    have e4' : (tSub4 a.num a.den b.num b.den).1 = a.den * b.den := by unfold tSub4; rw [e4]
    rw [if_pos rfl, e4', e3', if_neg (den2_ne a b), sub_divInt, if_pos ⟨b1, b2, b4, b3⟩]
  | false =>
    rw [if_neg (by simp), if_neg]
    rintro ⟨b1, b2, b4, b3⟩
    have e1 : tSub1 a.num b.den = (a.num * b.den, true) := dk_ok b1
    have e2 : tSub2 a.num a.den b.num b.den = (b.num * a.den, true) := by unfold tSub2; rw [e1]; exact dk_ok b2
    have e3 : tSub3 a.num a.den b.num b.den = (a.num * b.den - b.num * a.den, true) := by unfold tSub3; rw [e1, e2]; exact dk_ok b3
    have e4 : tSub4 a.num a.den b.num b.den = ((a.den : Int) * b.den, true) := by unfold tSub4; rw [e3]; exact dk_ok b4
    rw [e4] at h; cases h
def tMul1 (n m : Int) : Int × Bool := dk (n * m) true
def tMul2 (n p m q : Int) : Int × Bool := dk (p * q) (tMul1 n m).2
set_option maxRecDepth 100000 in
set_option maxHeartbeats 1000000 in
theorem cMul (n p m q : Int) (g : Nat) (w : World) (S0 : Sv w g true w) (hn : n.natAbs < big) (hp : p.natAbs < big) (hm : m.natAbs < big) (hq : q.natAbs < big) :
    Calls Tryz.prog 120 #[.pointer (some ⟨g, 0, none⟩), .string ⟨(Lib.itoa n).toArray⟩, .string ⟨(Lib.itoa p).toArray⟩, .string ⟨(Lib.itoa m).toArray⟩, .string ⟨(Lib.itoa q).toArray⟩] w
      (Svs w g (tMul2 n p m q).2 (.tuple #[.string ⟨(Lib.itoa (tMul1 n m).1).toArray⟩, .string ⟨(Lib.itoa (tMul2 n p m q).1).toArray⟩])) := by
  have h1 := fun W (S : Sv w g true W) => mulL [n, m] #[.string ⟨(Lib.itoa n).toArray⟩, .string ⟨(Lib.itoa m).toArray⟩] 2 g true w W 51 S rfl rfl (by omega) (by intro x hx; simp at hx; rcases hx with rfl | rfl <;> assumption)
  have h2 := fun s W (S : Sv w g s W) => mulL [p, q] #[.string ⟨(Lib.itoa p).toArray⟩, .string ⟨(Lib.itoa q).toArray⟩] 2 g s w W 51 S rfl rfl (by omega) (by intro x hx; simp at hx; rcases hx with rfl | rfl <;> assumption)
  simp only [mulS2 hn] at h1
  simp only [mulS2 hp] at h2
  have H1 := Lib.hid h1
  have H2 := Lib.hid (h2 (tMul1 n m).2)
  change Hid (∀ W, Sv w g true W → Calls _ _ _ _ (Svs w g (tMul1 n m).2 (.string ⟨(Lib.itoa (tMul1 n m).1).toArray⟩))) at H1
  change Hid (∀ W, Sv w g (tMul1 n m).2 W → Calls _ _ _ _ (Svs w g (tMul2 n p m q).2 (.string ⟨(Lib.itoa (tMul2 n p m q).1).toArray⟩))) at H2
  clear h1 h2 hn hp hm hq
  generalize tMul2 n p m q = p2 at *
  generalize tMul1 n m = p1 at *
  generalize Lib.itoa n = tn at *
  generalize Lib.itoa p = tp at *
  generalize Lib.itoa m = tm at *
  generalize Lib.itoa q = tq at *
  generalize Lib.itoa p1.1 = x1 at *
  generalize Lib.itoa p2.1 = x2 at *
  go_enter Tryz.func120, Tryz.ntmps120
  go_wp2_with fail
  ((with_reducible refine (H1.out _ S0).mono ?_); rintro e w1 ⟨rfl, S1⟩)
  go_wp2_with fail
  ((with_reducible refine (H2.out _ S1).mono ?_); rintro e w2 ⟨rfl, S2⟩)
  go_wp2
  go_ret2
  exact ⟨rfl, S2⟩
theorem mMul (a b : Rat) : madeR (tMul1 a.num b.num).1 (tMul2 a.num a.den b.num b.den).1 (tMul2 a.num a.den b.num b.den).2 = mulQ a b := by
  unfold mulQ madeR
  simp only [allB, List.all_cons, List.all_nil, Bool.and_true, Bool.and_eq_true, decide_eq_true_eq]
  cases h : (tMul2 a.num a.den b.num b.den).2 with
  | true =>
    obtain ⟨h1, b2, e2⟩ := dk_good _ _ h
    obtain ⟨-, b1, e1⟩ := dk_good _ _ h1
    have e1' : (tMul1 a.num b.num).1 = a.num * b.num := by unfold tMul1; rw [e1]
    have e2' : (tMul2 a.num a.den b.num b.den).1 = a.den * b.den := by unfold tMul2; rw [e2]
    rw [if_pos rfl, e2', e1', if_neg (den2_ne a b), mul_divInt, if_pos ⟨b2, b1⟩]
  | false =>
    rw [if_neg (by simp), if_neg]
    rintro ⟨b2, b1⟩
    have e1 : tMul1 a.num b.num = (a.num * b.num, true) := dk_ok b1
    have e2 : tMul2 a.num a.den b.num b.den = ((a.den : Int) * b.den, true) := by unfold tMul2; rw [e1]; exact dk_ok b2
    rw [e2] at h; cases h
def tDiv1 (n q : Int) : Int × Bool := dk (n * q) true
def tDiv2 (n p m q : Int) : Int × Bool := dk (p * m) (tDiv1 n q).2
set_option maxRecDepth 100000 in
set_option maxHeartbeats 1000000 in
theorem cDiv (n p m q : Int) (g : Nat) (w : World) (S0 : Sv w g true w) (hn : n.natAbs < big) (hp : p.natAbs < big) (hm : m.natAbs < big) (hq : q.natAbs < big) :
    Calls Tryz.prog 170 #[.pointer (some ⟨g, 0, none⟩), .string ⟨(Lib.itoa n).toArray⟩, .string ⟨(Lib.itoa p).toArray⟩, .string ⟨(Lib.itoa m).toArray⟩, .string ⟨(Lib.itoa q).toArray⟩] w
      (Svs w g (tDiv2 n p m q).2 (.tuple #[.string ⟨(Lib.itoa (tDiv1 n q).1).toArray⟩, .string ⟨(Lib.itoa (tDiv2 n p m q).1).toArray⟩])) := by
  have h1 := fun W (S : Sv w g true W) => mulL [n, q] #[.string ⟨(Lib.itoa n).toArray⟩, .string ⟨(Lib.itoa q).toArray⟩] 2 g true w W 51 S rfl rfl (by omega) (by intro x hx; simp at hx; rcases hx with rfl | rfl <;> assumption)
  have h2 := fun s W (S : Sv w g s W) => mulL [p, m] #[.string ⟨(Lib.itoa p).toArray⟩, .string ⟨(Lib.itoa m).toArray⟩] 2 g s w W 51 S rfl rfl (by omega) (by intro x hx; simp at hx; rcases hx with rfl | rfl <;> assumption)
  simp only [mulS2 hn] at h1
  simp only [mulS2 hp] at h2
  have H1 := Lib.hid h1
  have H2 := Lib.hid (h2 (tDiv1 n q).2)
  change Hid (∀ W, Sv w g true W → Calls _ _ _ _ (Svs w g (tDiv1 n q).2 (.string ⟨(Lib.itoa (tDiv1 n q).1).toArray⟩))) at H1
  change Hid (∀ W, Sv w g (tDiv1 n q).2 W → Calls _ _ _ _ (Svs w g (tDiv2 n p m q).2 (.string ⟨(Lib.itoa (tDiv2 n p m q).1).toArray⟩))) at H2
  clear h1 h2 hn hp hm hq
  generalize tDiv2 n p m q = p2 at *
  generalize tDiv1 n q = p1 at *
  generalize Lib.itoa n = tn at *
  generalize Lib.itoa p = tp at *
  generalize Lib.itoa m = tm at *
  generalize Lib.itoa q = tq at *
  generalize Lib.itoa p1.1 = x1 at *
  generalize Lib.itoa p2.1 = x2 at *
  go_enter Tryz.func170, Tryz.ntmps170
  go_wp2_with fail
  ((with_reducible refine (H1.out _ S0).mono ?_); rintro e w1 ⟨rfl, S1⟩)
  go_wp2_with fail
  ((with_reducible refine (H2.out _ S1).mono ?_); rintro e w2 ⟨rfl, S2⟩)
  go_wp2
  go_ret2
  exact ⟨rfl, S2⟩
theorem mDiv (a b : Rat) (h0 : b ≠ 0) : madeR (tDiv1 a.num b.den).1 (tDiv2 a.num a.den b.num b.den).1 (tDiv2 a.num a.den b.num b.den).2 = divQ a b := by
  unfold divQ madeR
  rw [if_neg h0]
  simp only [allB, List.all_cons, List.all_nil, Bool.and_true, Bool.and_eq_true, decide_eq_true_eq]
  cases h : (tDiv2 a.num a.den b.num b.den).2 with
  | true =>
    obtain ⟨h1, b2, e2⟩ := dk_good _ _ h
    obtain ⟨-, b1, e1⟩ := dk_good _ _ h1
    have e1' : (tDiv1 a.num b.den).1 = a.num * b.den := by unfold tDiv1; rw [e1]
    have e2' : (tDiv2 a.num a.den b.num b.den).1 = a.den * b.num := by unfold tDiv2; rw [e2]
    rw [if_pos rfl, e2', e1', if_neg (Int.mul_ne_zero (den_ne a) (fun e => h0 (Rat.num_eq_zero.1 e))), div_divInt, if_pos ⟨b1, b2⟩]
  | false =>
    rw [if_neg (by simp), if_neg]
    rintro ⟨b1, b2⟩
    have e1 : tDiv1 a.num b.den = (a.num * b.den, true) := dk_ok b1
    have e2 : tDiv2 a.num a.den b.num b.den = ((a.den : Int) * b.num, true) := by unfold tDiv2; rw [e1]; exact dk_ok b2
    rw [e2] at h; cases h
end Go.Proofs.Wk
/- THE PROGRAM's RATIONAL NUMBERS: sums, differences, products and quotients of texts. -/
namespace Go.Proofs.Wk
open Go.RowKit Mt

theorem itoa_is_zero {n : Int} : (Lib.itoa n == [48]) = decide (n = 0) := by
  by_cases h : n = 0
  · subst h; rw [itoa_zero]; rfl
  · rw [decide_eq_false h, beq_eq_false_iff_ne, ← itoa_zero]
    exact fun e => h (itoa_inj e)
theorem SlS.two (w : World) (a b : Txt) (t : TypeId) : SlS (w.alloc (.cells #[.string ⟨a.toArray⟩, .string ⟨b.toArray⟩] t)) (.slice (some ⟨w.heap.size, 0, none⟩) 2 2) [a, b] :=
  .inr ⟨w.heap.size, 0, 2, rfl, RS.lit w [a, b] t, alloc_lt w _⟩
theorem cut_q (q : Rat) (w : World) (h : okQ q) : Calls Tryz.prog 18 #[.string ⟨(rtoa q).toArray⟩] w (Ret w (.tuple #[.string ⟨(Lib.itoa q.num).toArray⟩, .string ⟨(Lib.itoa (q.den : Int)).toArray⟩, .bool (rhas (rtoa q))])) := by
  have := cut_c (rtoa q) w (tlen h)
  rwa [rnum_rtoa, rden_rtoa] at this
theorem Sv.new (w : World) (hG : Good w) : Sv (w.alloc (.cells #[.int .i64 0] 56)) w.heap.size true (w.alloc (.cells #[.int .i64 0] 56)) :=
  ⟨heap_alloc_new w _, gb_refl _ _, ⟨w, hG, Nat.le_refl _, (Below.refl _ _).alloc (Nat.le_refl _) _⟩⟩
theorem Sv.below {w0 W w' : World} {s : Bool} {B : Nat} (h : Sv (W.alloc (.cells #[.int .i64 0] 56)) W.heap.size s w') (hb : Below B w0 W) (hB : B ≤ W.heap.size) : Below B w0 w' :=
  (hb.alloc hB _).trans (gb_below h.gr hB (Nat.le_trans hB (Nat.le_of_lt (alloc_lt W _))))
theorem okQ.nb {q : Rat} (h : okQ q) : q.num.natAbs < big := h.1
theorem okQ.db {q : Rat} (h : okQ q) : (q.den : Int).natAbs < big := by have := h.2; simpa using this
theorem list2_le {a b : Txt} (ha : a.length ≤ 140737488355328) (hb : b.length ≤ 140737488355328) : ∀ l ∈ [a, b], l.length ≤ 140737488355328 := by
  intro l hl; simp at hl; rcases hl with rfl | rfl <;> assumption
set_option maxRecDepth 100000 in
set_option maxHeartbeats 1000000 in
theorem madeAdd_err (a b : Txt) (w : World) (hg : Good w) (ha : a.length ≤ 140737488355328) (hb : b.length ≤ 140737488355328) (h : firstR [a, b] ≠ 0) :
    Calls Tryz.prog 47 #[.string ⟨a.toArray⟩, .string ⟨b.toArray⟩, .func (.func 149) #[] #[]] w (Ret w (ans2 ([], firstR [a, b]))) := by
  have HK := Lib.hid (fun W hW hS => checks_c (v := .slice (some ⟨w.heap.size, 0, none⟩) 2 2) [a, b] W hW hS (by simp) (list2_le ha hb))
  have HG := Lib.hid hg
  have h3 := bne_ne h
  clear ha hb hg h
  generalize firstR [a, b] = x at *
  go_enter Tryz.func47, Tryz.ntmps47
  go_wp2_with fail
  ((with_reducible refine (HK.out _ (HG.out.later ((Below.refl _ _).alloc (Nat.le_refl _) _)) (SlS.two w _ _ _)).mono ?_); rintro e w1 ⟨rfl, hb1⟩)
  have hB1 : Below w.heap.size w w1 := ((Below.refl w.heap.size w).alloc (Nat.le_refl _) _).trans (hb1.mono (Nat.le_of_lt (alloc_lt w _)))
  go_wp2
  go_ret2
  exact ⟨rfl, hB1⟩
set_option maxRecDepth 100000 in
set_option maxHeartbeats 4000000 in
theorem madeAdd_ok (p q : Rat) (w : World) (hg : Good w) (hp : okQ p) (hq : okQ q) (hf : firstR [rtoa p, rtoa q] = 0) :
    Calls Tryz.prog 47 #[.string ⟨(rtoa p).toArray⟩, .string ⟨(rtoa q).toArray⟩, .func (.func 149) #[] #[]] w (Ret w (ans2 (addQ p q))) := by
  have hk := fun W hW hS => checks_c (v := .slice (some ⟨w.heap.size, 0, none⟩) 2 2) [rtoa p, rtoa q] W hW hS (by simp) (list2_le (tlen hp) (tlen hq))
  rw [hf] at hk
  have HK := Lib.hid hk
  have HG := Lib.hid hg
  have HCP := Lib.hid (fun W => cut_q p W hp)
  have HCQ := Lib.hid (fun W => cut_q q W hq)
  have HT := Lib.hid (fun W g S => cAdd p.num p.den q.num q.den g W S hp.nb hp.db hq.nb hq.db)
  rw [← mAdd p q]
  have hx : (tAdd3 p.num p.den q.num q.den).1.natAbs < big := dk_lng _ _
  have hy : (tAdd4 p.num p.den q.num q.den).1.natAbs < big := dk_lng _ _
  generalize (tAdd4 p.num p.den q.num q.den).2 = s at *
  generalize (tAdd4 p.num p.den q.num q.den).1 = y at *
  generalize (tAdd3 p.num p.den q.num q.den).1 = x at *
  have HL := Lib.hid (fun h0 g w0 W S => lowL x y g w0 W S hx hy h0)
  have hz := itoa_is_zero (n := y)
  clear hk hp hq hf hg hx hy
  generalize rhas (rtoa p) = o1 at *
  generalize rhas (rtoa q) = o2 at *
  generalize rtoa p = ta at *
  generalize rtoa q = tb at *
  generalize Lib.itoa p.num = t1 at *
  generalize Lib.itoa (p.den : Int) = t2 at *
  generalize Lib.itoa q.num = t3 at *
  generalize Lib.itoa (q.den : Int) = t4 at *
  unfold madeR
  cases s
  · rw [if_neg (by simp)]
    generalize Lib.itoa x = tx at *
    generalize Lib.itoa y = ty at *
    clear hz
    go_enter Tryz.func47, Tryz.ntmps47
    go_wp2_with fail
    ((with_reducible refine (HK.out _ (HG.out.later ((Below.refl _ _).alloc (Nat.le_refl _) _)) (SlS.two w _ _ _)).mono ?_); rintro e w1 ⟨rfl, hb1⟩)
    have hB1 : Below w.heap.size w w1 := ((Below.refl w.heap.size w).alloc (Nat.le_refl _) _).trans (hb1.mono (Nat.le_of_lt (alloc_lt w _)))
    go_wp2_with fail
    ((with_reducible refine (HCP.out _).mono ?_); rintro e w2 ⟨rfl, hb2⟩)
    have hB2 := hB1.trans (hb2.mono hB1.size); clear hb2
    go_wp2_with fail
    ((with_reducible refine (HCQ.out _).mono ?_); rintro e w3 ⟨rfl, hb3⟩)
    have hB3 := hB2.trans (hb3.mono hB2.size); clear hb3
    have S4 := Sv.new w3 (HG.out.later hB3)
    go_wp2_with fail
    ((with_reducible refine (HT.out _ _ S4).mono ?_); rintro e w5 ⟨rfl, S5⟩)
    have c0 := S5.st.c0
    rw [show ecode false = 11 from rfl] at c0
    have HB := Lib.hid (S5.below hB3 hB3.size)
    clear S4 S5
    go_wp2_with fail
    go_region
    all_goals
      go_wp2
      go_ret2
      exact ⟨rfl, HB.out.drew⟩
  · rw [if_pos rfl]
    by_cases h1 : y = 0
    · rw [if_pos h1]
      rw [decide_eq_true h1] at hz
      generalize Lib.itoa x = tx at *
      generalize Lib.itoa y = ty at *
      clear h1
      go_enter Tryz.func47, Tryz.ntmps47
      go_wp2_with fail
      ((with_reducible refine (HK.out _ (HG.out.later ((Below.refl _ _).alloc (Nat.le_refl _) _)) (SlS.two w _ _ _)).mono ?_); rintro e w1 ⟨rfl, hb1⟩)
      have hB1 : Below w.heap.size w w1 := ((Below.refl w.heap.size w).alloc (Nat.le_refl _) _).trans (hb1.mono (Nat.le_of_lt (alloc_lt w _)))
      go_wp2_with fail
      ((with_reducible refine (HCP.out _).mono ?_); rintro e w2 ⟨rfl, hb2⟩)
      have hB2 := hB1.trans (hb2.mono hB1.size); clear hb2
      go_wp2_with fail
      ((with_reducible refine (HCQ.out _).mono ?_); rintro e w3 ⟨rfl, hb3⟩)
      have hB3 := hB2.trans (hb3.mono hB2.size); clear hb3
      have S4 := Sv.new w3 (HG.out.later hB3)
      go_wp2_with fail
      ((with_reducible refine (HT.out _ _ S4).mono ?_); rintro e w5 ⟨rfl, S5⟩)
      have c0 := S5.st.c0
      rw [show ecode true = 0 from rfl] at c0
      have HB := Lib.hid (S5.below hB3 hB3.size)
      clear S4 S5
      go_wp2
      go_ret2
      exact ⟨rfl, HB.out⟩
    · rw [if_neg h1]
      rw [decide_eq_false h1] at hz
      have HL2 := Lib.hid (HL.out h1)
      clear HL
      generalize rtoa (Rat.divInt x y) = tr at *
      generalize Lib.itoa x = tx at *
      generalize Lib.itoa y = ty at *
      clear h1
      go_enter Tryz.func47, Tryz.ntmps47
      go_wp2_with fail
      ((with_reducible refine (HK.out _ (HG.out.later ((Below.refl _ _).alloc (Nat.le_refl _) _)) (SlS.two w _ _ _)).mono ?_); rintro e w1 ⟨rfl, hb1⟩)
      have hB1 : Below w.heap.size w w1 := ((Below.refl w.heap.size w).alloc (Nat.le_refl _) _).trans (hb1.mono (Nat.le_of_lt (alloc_lt w _)))
      go_wp2_with fail
      ((with_reducible refine (HCP.out _).mono ?_); rintro e w2 ⟨rfl, hb2⟩)
      have hB2 := hB1.trans (hb2.mono hB1.size); clear hb2
      go_wp2_with fail
      ((with_reducible refine (HCQ.out _).mono ?_); rintro e w3 ⟨rfl, hb3⟩)
      have hB3 := hB2.trans (hb3.mono hB2.size); clear hb3
      have S4 := Sv.new w3 (HG.out.later hB3)
      go_wp2_with fail
      ((with_reducible refine (HT.out _ _ S4).mono ?_); rintro e w5 ⟨rfl, S5⟩)
      have c0 := S5.st.c0
      rw [show ecode true = 0 from rfl] at c0
      go_wp2_with fail
      ((with_reducible refine (HL2.out _ _ _ S5).mono ?_); rintro e w6 ⟨rfl, S6⟩)
      have c1 := S6.st.c0
      rw [show ecode true = 0 from rfl] at c1
      have HB := Lib.hid (S6.below hB3 hB3.size)
      clear S4 S5 S6 c0
      go_wp2_with fail
      go_region
      all_goals
        go_wp2
        go_ret2
        exact ⟨rfl, HB.out.drew⟩
set_option maxRecDepth 100000 in
set_option maxHeartbeats 1000000 in
theorem madeSub_err (a b : Txt) (w : World) (hg : Good w) (ha : a.length ≤ 140737488355328) (hb : b.length ≤ 140737488355328) (h : firstR [a, b] ≠ 0) :
    Calls Tryz.prog 47 #[.string ⟨a.toArray⟩, .string ⟨b.toArray⟩, .func (.func 48) #[] #[]] w (Ret w (ans2 ([], firstR [a, b]))) := by
  have HK := Lib.hid (fun W hW hS => checks_c (v := .slice (some ⟨w.heap.size, 0, none⟩) 2 2) [a, b] W hW hS (by simp) (list2_le ha hb))
  have HG := Lib.hid hg
  have h3 := bne_ne h
  clear ha hb hg h
  generalize firstR [a, b] = x at *
  go_enter Tryz.func47, Tryz.ntmps47
  go_wp2_with fail
  ((with_reducible refine (HK.out _ (HG.out.later ((Below.refl _ _).alloc (Nat.le_refl _) _)) (SlS.two w _ _ _)).mono ?_); rintro e w1 ⟨rfl, hb1⟩)
  have hB1 : Below w.heap.size w w1 := ((Below.refl w.heap.size w).alloc (Nat.le_refl _) _).trans (hb1.mono (Nat.le_of_lt (alloc_lt w _)))
  go_wp2
  go_ret2
  exact ⟨rfl, hB1⟩
set_option maxRecDepth 100000 in
set_option maxHeartbeats 4000000 in
theorem madeSub_ok (p q : Rat) (w : World) (hg : Good w) (hp : okQ p) (hq : okQ q) (hf : firstR [rtoa p, rtoa q] = 0) :
    Calls Tryz.prog 47 #[.string ⟨(rtoa p).toArray⟩, .string ⟨(rtoa q).toArray⟩, .func (.func 48) #[] #[]] w (Ret w (ans2 (subQ p q))) := by
  have hk := fun W hW hS => checks_c (v := .slice (some ⟨w.heap.size, 0, none⟩) 2 2) [rtoa p, rtoa q] W hW hS (by simp) (list2_le (tlen hp) (tlen hq))
  rw [hf] at hk
  have HK := Lib.hid hk
  have HG := Lib.hid hg
  have HCP := Lib.hid (fun W => cut_q p W hp)
  have HCQ := Lib.hid (fun W => cut_q q W hq)
  have HT := Lib.hid (fun W g S => cSub p.num p.den q.num q.den g W S hp.nb hp.db hq.nb hq.db)
  rw [← mSub p q]
  have hx : (tSub3 p.num p.den q.num q.den).1.natAbs < big := dk_lng _ _
  have hy : (tSub4 p.num p.den q.num q.den).1.natAbs < big := dk_lng _ _
  generalize (tSub4 p.num p.den q.num q.den).2 = s at *
  generalize (tSub4 p.num p.den q.num q.den).1 = y at *
  generalize (tSub3 p.num p.den q.num q.den).1 = x at *
  have HL := Lib.hid (fun h0 g w0 W S => lowL x y g w0 W S hx hy h0)
  have hz := itoa_is_zero (n := y)
  clear hk hp hq hf hg hx hy
  generalize rhas (rtoa p) = o1 at *
  generalize rhas (rtoa q) = o2 at *
  generalize rtoa p = ta at *
  generalize rtoa q = tb at *
  generalize Lib.itoa p.num = t1 at *
  generalize Lib.itoa (p.den : Int) = t2 at *
  generalize Lib.itoa q.num = t3 at *
  generalize Lib.itoa (q.den : Int) = t4 at *
  unfold madeR
  cases s
  · rw [if_neg (by simp)]
    generalize Lib.itoa x = tx at *
    generalize Lib.itoa y = ty at *
    clear hz
    go_enter Tryz.func47, Tryz.ntmps47
    go_wp2_with fail
    ((with_reducible refine (HK.out _ (HG.out.later ((Below.refl _ _).alloc (Nat.le_refl _) _)) (SlS.two w _ _ _)).mono ?_); rintro e w1 ⟨rfl, hb1⟩)
    have hB1 : Below w.heap.size w w1 := ((Below.refl w.heap.size w).alloc (Nat.le_refl _) _).trans (hb1.mono (Nat.le_of_lt (alloc_lt w _)))
    go_wp2_with fail
    ((with_reducible refine (HCP.out _).mono ?_); rintro e w2 ⟨rfl, hb2⟩)
    have hB2 := hB1.trans (hb2.mono hB1.size); clear hb2
    go_wp2_with fail
    ((with_reducible refine (HCQ.out _).mono ?_); rintro e w3 ⟨rfl, hb3⟩)
    have hB3 := hB2.trans (hb3.mono hB2.size); clear hb3
    have S4 := Sv.new w3 (HG.out.later hB3)
    go_wp2_with fail
    ((with_reducible refine (HT.out _ _ S4).mono ?_); rintro e w5 ⟨rfl, S5⟩)
    have c0 := S5.st.c0
    rw [show ecode false = 11 from rfl] at c0
    have HB := Lib.hid (S5.below hB3 hB3.size)
    clear S4 S5
    go_wp2_with fail
    go_region
    all_goals
      go_wp2
      go_ret2
      exact ⟨rfl, HB.out.drew⟩
  · rw [if_pos rfl]
    by_cases h1 : y = 0
    · rw [if_pos h1]
      rw [decide_eq_true h1] at hz
      generalize Lib.itoa x = tx at *
      generalize Lib.itoa y = ty at *
      clear h1
      go_enter Tryz.func47, Tryz.ntmps47
      go_wp2_with fail
      ((with_reducible refine (HK.out _ (HG.out.later ((Below.refl _ _).alloc (Nat.le_refl _) _)) (SlS.two w _ _ _)).mono ?_); rintro e w1 ⟨rfl, hb1⟩)
      have hB1 : Below w.heap.size w w1 := ((Below.refl w.heap.size w).alloc (Nat.le_refl _) _).trans (hb1.mono (Nat.le_of_lt (alloc_lt w _)))
      go_wp2_with fail
      ((with_reducible refine (HCP.out _).mono ?_); rintro e w2 ⟨rfl, hb2⟩)
      have hB2 := hB1.trans (hb2.mono hB1.size); clear hb2
      go_wp2_with fail
      ((with_reducible refine (HCQ.out _).mono ?_); rintro e w3 ⟨rfl, hb3⟩)
      have hB3 := hB2.trans (hb3.mono hB2.size); clear hb3
      have S4 := Sv.new w3 (HG.out.later hB3)
      go_wp2_with fail
      ((with_reducible refine (HT.out _ _ S4).mono ?_); rintro e w5 ⟨rfl, S5⟩)
      have c0 := S5.st.c0
      rw [show ecode true = 0 from rfl] at c0
      have HB := Lib.hid (S5.below hB3 hB3.size)
      clear S4 S5
      go_wp2
      go_ret2
      exact ⟨rfl, HB.out⟩
    · rw [if_neg h1]
      rw [decide_eq_false h1] at hz
      have HL2 := Lib.hid (HL.out h1)
      clear HL
      generalize rtoa (Rat.divInt x y) = tr at *
      generalize Lib.itoa x = tx at *
      generalize Lib.itoa y = ty at *
      clear h1
      go_enter Tryz.func47, Tryz.ntmps47
      go_wp2_with fail
      ((with_reducible refine (HK.out _ (HG.out.later ((Below.refl _ _).alloc (Nat.le_refl _) _)) (SlS.two w _ _ _)).mono ?_); rintro e w1 ⟨rfl, hb1⟩)
      have hB1 : Below w.heap.size w w1 := ((Below.refl w.heap.size w).alloc (Nat.le_refl _) _).trans (hb1.mono (Nat.le_of_lt (alloc_lt w _)))
      go_wp2_with fail
      ((with_reducible refine (HCP.out _).mono ?_); rintro e w2 ⟨rfl, hb2⟩)
      have hB2 := hB1.trans (hb2.mono hB1.size); clear hb2
      go_wp2_with fail
      ((with_reducible refine (HCQ.out _).mono ?_); rintro e w3 ⟨rfl, hb3⟩)
      have hB3 := hB2.trans (hb3.mono hB2.size); clear hb3
      have S4 := Sv.new w3 (HG.out.later hB3)
      go_wp2_with fail
      ((with_reducible refine (HT.out _ _ S4).mono ?_); rintro e w5 ⟨rfl, S5⟩)
      have c0 := S5.st.c0
      rw [show ecode true = 0 from rfl] at c0
      go_wp2_with fail
      ((with_reducible refine (HL2.out _ _ _ S5).mono ?_); rintro e w6 ⟨rfl, S6⟩)
      have c1 := S6.st.c0
      rw [show ecode true = 0 from rfl] at c1
      have HB := Lib.hid (S6.below hB3 hB3.size)
      clear S4 S5 S6 c0
      go_wp2_with fail
      go_region
      all_goals
        go_wp2
        go_ret2
        exact ⟨rfl, HB.out.drew⟩
set_option maxRecDepth 100000 in
set_option maxHeartbeats 1000000 in
theorem madeMul_err (a b : Txt) (w : World) (hg : Good w) (ha : a.length ≤ 140737488355328) (hb : b.length ≤ 140737488355328) (h : firstR [a, b] ≠ 0) :
    Calls Tryz.prog 47 #[.string ⟨a.toArray⟩, .string ⟨b.toArray⟩, .func (.func 120) #[] #[]] w (Ret w (ans2 ([], firstR [a, b]))) := by
  have HK := Lib.hid (fun W hW hS => checks_c (v := .slice (some ⟨w.heap.size, 0, none⟩) 2 2) [a, b] W hW hS (by simp) (list2_le ha hb))
  have HG := Lib.hid hg
  have h3 := bne_ne h
  clear ha hb hg h
  generalize firstR [a, b] = x at *
  go_enter Tryz.func47, Tryz.ntmps47
  go_wp2_with fail
  ((with_reducible refine (HK.out _ (HG.out.later ((Below.refl _ _).alloc (Nat.le_refl _) _)) (SlS.two w _ _ _)).mono ?_); rintro e w1 ⟨rfl, hb1⟩)
  have hB1 : Below w.heap.size w w1 := ((Below.refl w.heap.size w).alloc (Nat.le_refl _) _).trans (hb1.mono (Nat.le_of_lt (alloc_lt w _)))
  go_wp2
  go_ret2
  exact ⟨rfl, hB1⟩
set_option maxRecDepth 100000 in
set_option maxHeartbeats 4000000 in
theorem madeMul_ok (p q : Rat) (w : World) (hg : Good w) (hp : okQ p) (hq : okQ q) (hf : firstR [rtoa p, rtoa q] = 0) :
    Calls Tryz.prog 47 #[.string ⟨(rtoa p).toArray⟩, .string ⟨(rtoa q).toArray⟩, .func (.func 120) #[] #[]] w (Ret w (ans2 (mulQ p q))) := by
  have hk := fun W hW hS => checks_c (v := .slice (some ⟨w.heap.size, 0, none⟩) 2 2) [rtoa p, rtoa q] W hW hS (by simp) (list2_le (tlen hp) (tlen hq))
  rw [hf] at hk
  have HK := Lib.hid hk
  have HG := Lib.hid hg
  have HCP := Lib.hid (fun W => cut_q p W hp)
  have HCQ := Lib.hid (fun W => cut_q q W hq)
  have HT := Lib.hid (fun W g S => cMul p.num p.den q.num q.den g W S hp.nb hp.db hq.nb hq.db)
  rw [← mMul p q]
  have hx : (tMul1 p.num q.num).1.natAbs < big := dk_lng _ _
  have hy : (tMul2 p.num p.den q.num q.den).1.natAbs < big := dk_lng _ _
  generalize (tMul2 p.num p.den q.num q.den).2 = s at *
  generalize (tMul2 p.num p.den q.num q.den).1 = y at *
  generalize (tMul1 p.num q.num).1 = x at *
  have HL := Lib.hid (fun h0 g w0 W S => lowL x y g w0 W S hx hy h0)
  have hz := itoa_is_zero (n := y)
  clear hk hp hq hf hg hx hy
  generalize rhas (rtoa p) = o1 at *
  generalize rhas (rtoa q) = o2 at *
  generalize rtoa p = ta at *
  generalize rtoa q = tb at *
  generalize Lib.itoa p.num = t1 at *
  generalize Lib.itoa (p.den : Int) = t2 at *
  generalize Lib.itoa q.num = t3 at *
  generalize Lib.itoa (q.den : Int) = t4 at *
  unfold madeR
  cases s
  · rw [if_neg (by simp)]
    generalize Lib.itoa x = tx at *
    generalize Lib.itoa y = ty at *
    clear hz
    go_enter Tryz.func47, Tryz.ntmps47
    go_wp2_with fail
    ((with_reducible refine (HK.out _ (HG.out.later ((Below.refl _ _).alloc (Nat.le_refl _) _)) (SlS.two w _ _ _)).mono ?_); rintro e w1 ⟨rfl, hb1⟩)
    have hB1 : Below w.heap.size w w1 := ((Below.refl w.heap.size w).alloc (Nat.le_refl _) _).trans (hb1.mono (Nat.le_of_lt (alloc_lt w _)))
    go_wp2_with fail
    ((with_reducible refine (HCP.out _).mono ?_); rintro e w2 ⟨rfl, hb2⟩)
    have hB2 := hB1.trans (hb2.mono hB1.size); clear hb2
    go_wp2_with fail
    ((with_reducible refine (HCQ.out _).mono ?_); rintro e w3 ⟨rfl, hb3⟩)
    have hB3 := hB2.trans (hb3.mono hB2.size); clear hb3
    have S4 := Sv.new w3 (HG.out.later hB3)
    go_wp2_with fail
    ((with_reducible refine (HT.out _ _ S4).mono ?_); rintro e w5 ⟨rfl, S5⟩)
    have c0 := S5.st.c0
    rw [show ecode false = 11 from rfl] at c0
    have HB := Lib.hid (S5.below hB3 hB3.size)
    clear S4 S5
    go_wp2_with fail
    go_region
    all_goals
      go_wp2
      go_ret2
      exact ⟨rfl, HB.out.drew⟩
  · rw [if_pos rfl]
    by_cases h1 : y = 0
    · rw [if_pos h1]
      rw [decide_eq_true h1] at hz
      generalize Lib.itoa x = tx at *
      generalize Lib.itoa y = ty at *
      clear h1
      go_enter Tryz.func47, Tryz.ntmps47
      go_wp2_with fail
      ((with_reducible refine (HK.out _ (HG.out.later ((Below.refl _ _).alloc (Nat.le_refl _) _)) (SlS.two w _ _ _)).mono ?_); rintro e w1 ⟨rfl, hb1⟩)
      have hB1 : Below w.heap.size w w1 := ((Below.refl w.heap.size w).alloc (Nat.le_refl _) _).trans (hb1.mono (Nat.le_of_lt (alloc_lt w _)))
      go_wp2_with fail
      ((with_reducible refine (HCP.out _).mono ?_); rintro e w2 ⟨rfl, hb2⟩)
      have hB2 := hB1.trans (hb2.mono hB1.size); clear hb2
      go_wp2_with fail
      ((with_reducible refine (HCQ.out _).mono ?_); rintro e w3 ⟨rfl, hb3⟩)
      have hB3 := hB2.trans (hb3.mono hB2.size); clear hb3
      have S4 := Sv.new w3 (HG.out.later hB3)
      go_wp2_with fail
      ((with_reducible refine (HT.out _ _ S4).mono ?_); rintro e w5 ⟨rfl, S5⟩)
      have c0 := S5.st.c0
      rw [show ecode true = 0 from rfl] at c0
      have HB := Lib.hid (S5.below hB3 hB3.size)
      clear S4 S5
      go_wp2
      go_ret2
      exact ⟨rfl, HB.out⟩
    · rw [if_neg h1]
      rw [decide_eq_false h1] at hz
      have HL2 := Lib.hid (HL.out h1)
      clear HL
      generalize rtoa (Rat.divInt x y) = tr at *
      generalize Lib.itoa x = tx at *
      generalize Lib.itoa y = ty at *
      clear h1
      go_enter Tryz.func47, Tryz.ntmps47
      go_wp2_with fail
      ((with_reducible refine (HK.out _ (HG.out.later ((Below.refl _ _).alloc (Nat.le_refl _) _)) (SlS.two w _ _ _)).mono ?_); rintro e w1 ⟨rfl, hb1⟩)
      have hB1 : Below w.heap.size w w1 := ((Below.refl w.heap.size w).alloc (Nat.le_refl _) _).trans (hb1.mono (Nat.le_of_lt (alloc_lt w _)))
      go_wp2_with fail
      ((with_reducible refine (HCP.out _).mono ?_); rintro e w2 ⟨rfl, hb2⟩)
      have hB2 := hB1.trans (hb2.mono hB1.size); clear hb2
      go_wp2_with fail
      ((with_reducible refine (HCQ.out _).mono ?_); rintro e w3 ⟨rfl, hb3⟩)
      have hB3 := hB2.trans (hb3.mono hB2.size); clear hb3
      have S4 := Sv.new w3 (HG.out.later hB3)
      go_wp2_with fail
      ((with_reducible refine (HT.out _ _ S4).mono ?_); rintro e w5 ⟨rfl, S5⟩)
      have c0 := S5.st.c0
      rw [show ecode true = 0 from rfl] at c0
      go_wp2_with fail
      ((with_reducible refine (HL2.out _ _ _ S5).mono ?_); rintro e w6 ⟨rfl, S6⟩)
      have c1 := S6.st.c0
      rw [show ecode true = 0 from rfl] at c1
      have HB := Lib.hid (S6.below hB3 hB3.size)
      clear S4 S5 S6 c0
      go_wp2_with fail
      go_region
      all_goals
        go_wp2
        go_ret2
        exact ⟨rfl, HB.out.drew⟩
set_option maxRecDepth 100000 in
set_option maxHeartbeats 4000000 in
theorem madeDiv_ok (p q : Rat) (w : World) (hg : Good w) (hp : okQ p) (hq : okQ q) (hf : firstR [rtoa p, rtoa q] = 0) (h0 : q ≠ 0) :
    Calls Tryz.prog 47 #[.string ⟨(rtoa p).toArray⟩, .string ⟨(rtoa q).toArray⟩, .func (.func 170) #[] #[]] w (Ret w (ans2 (divQ p q))) := by
  have hk := fun W hW hS => checks_c (v := .slice (some ⟨w.heap.size, 0, none⟩) 2 2) [rtoa p, rtoa q] W hW hS (by simp) (list2_le (tlen hp) (tlen hq))
  rw [hf] at hk
  have HK := Lib.hid hk
  have HG := Lib.hid hg
  have HCP := Lib.hid (fun W => cut_q p W hp)
  have HCQ := Lib.hid (fun W => cut_q q W hq)
  have HT := Lib.hid (fun W g S => cDiv p.num p.den q.num q.den g W S hp.nb hp.db hq.nb hq.db)
  rw [← mDiv p q h0]
  have hx : (tDiv1 p.num q.den).1.natAbs < big := dk_lng _ _
  have hy : (tDiv2 p.num p.den q.num q.den).1.natAbs < big := dk_lng _ _
  generalize (tDiv2 p.num p.den q.num q.den).2 = s at *
  generalize (tDiv2 p.num p.den q.num q.den).1 = y at *
  generalize (tDiv1 p.num q.den).1 = x at *
  have HL := Lib.hid (fun h0 g w0 W S => lowL x y g w0 W S hx hy h0)
  have hz := itoa_is_zero (n := y)
  clear hk hp hq hf hg hx hy h0
  generalize rhas (rtoa p) = o1 at *
  generalize rhas (rtoa q) = o2 at *
  generalize rtoa p = ta at *
  generalize rtoa q = tb at *
  generalize Lib.itoa p.num = t1 at *
  generalize Lib.itoa (p.den : Int) = t2 at *
  generalize Lib.itoa q.num = t3 at *
  generalize Lib.itoa (q.den : Int) = t4 at *
  unfold madeR
  cases s
  · rw [if_neg (by simp)]
    generalize Lib.itoa x = tx at *
    generalize Lib.itoa y = ty at *
    clear hz
    go_enter Tryz.func47, Tryz.ntmps47
    go_wp2_with fail
    ((with_reducible refine (HK.out _ (HG.out.later ((Below.refl _ _).alloc (Nat.le_refl _) _)) (SlS.two w _ _ _)).mono ?_); rintro e w1 ⟨rfl, hb1⟩)
    have hB1 : Below w.heap.size w w1 := ((Below.refl w.heap.size w).alloc (Nat.le_refl _) _).trans (hb1.mono (Nat.le_of_lt (alloc_lt w _)))
    go_wp2_with fail
    ((with_reducible refine (HCP.out _).mono ?_); rintro e w2 ⟨rfl, hb2⟩)
    have hB2 := hB1.trans (hb2.mono hB1.size); clear hb2
    go_wp2_with fail
    ((with_reducible refine (HCQ.out _).mono ?_); rintro e w3 ⟨rfl, hb3⟩)
    have hB3 := hB2.trans (hb3.mono hB2.size); clear hb3
    have S4 := Sv.new w3 (HG.out.later hB3)
    go_wp2_with fail
    ((with_reducible refine (HT.out _ _ S4).mono ?_); rintro e w5 ⟨rfl, S5⟩)
    have c0 := S5.st.c0
    rw [show ecode false = 11 from rfl] at c0
    have HB := Lib.hid (S5.below hB3 hB3.size)
    clear S4 S5
    go_wp2_with fail
    go_region
    all_goals
      go_wp2
      go_ret2
      exact ⟨rfl, HB.out.drew⟩
  · rw [if_pos rfl]
    by_cases h1 : y = 0
    · rw [if_pos h1]
      rw [decide_eq_true h1] at hz
      generalize Lib.itoa x = tx at *
      generalize Lib.itoa y = ty at *
      clear h1
      go_enter Tryz.func47, Tryz.ntmps47
      go_wp2_with fail
      ((with_reducible refine (HK.out _ (HG.out.later ((Below.refl _ _).alloc (Nat.le_refl _) _)) (SlS.two w _ _ _)).mono ?_); rintro e w1 ⟨rfl, hb1⟩)
      have hB1 : Below w.heap.size w w1 := ((Below.refl w.heap.size w).alloc (Nat.le_refl _) _).trans (hb1.mono (Nat.le_of_lt (alloc_lt w _)))
      go_wp2_with fail
      ((with_reducible refine (HCP.out _).mono ?_); rintro e w2 ⟨rfl, hb2⟩)
      have hB2 := hB1.trans (hb2.mono hB1.size); clear hb2
      go_wp2_with fail
      ((with_reducible refine (HCQ.out _).mono ?_); rintro e w3 ⟨rfl, hb3⟩)
      have hB3 := hB2.trans (hb3.mono hB2.size); clear hb3
      have S4 := Sv.new w3 (HG.out.later hB3)
      go_wp2_with fail
      ((with_reducible refine (HT.out _ _ S4).mono ?_); rintro e w5 ⟨rfl, S5⟩)
      have c0 := S5.st.c0
      rw [show ecode true = 0 from rfl] at c0
      have HB := Lib.hid (S5.below hB3 hB3.size)
      clear S4 S5
      go_wp2
      go_ret2
      exact ⟨rfl, HB.out⟩
    · rw [if_neg h1]
      rw [decide_eq_false h1] at hz
      have HL2 := Lib.hid (HL.out h1)
      clear HL
      generalize rtoa (Rat.divInt x y) = tr at *
      generalize Lib.itoa x = tx at *
      generalize Lib.itoa y = ty at *
      clear h1
      go_enter Tryz.func47, Tryz.ntmps47
      go_wp2_with fail
      ((with_reducible refine (HK.out _ (HG.out.later ((Below.refl _ _).alloc (Nat.le_refl _) _)) (SlS.two w _ _ _)).mono ?_); rintro e w1 ⟨rfl, hb1⟩)
      have hB1 : Below w.heap.size w w1 := ((Below.refl w.heap.size w).alloc (Nat.le_refl _) _).trans (hb1.mono (Nat.le_of_lt (alloc_lt w _)))
      go_wp2_with fail
      ((with_reducible refine (HCP.out _).mono ?_); rintro e w2 ⟨rfl, hb2⟩)
      have hB2 := hB1.trans (hb2.mono hB1.size); clear hb2
      go_wp2_with fail
      ((with_reducible refine (HCQ.out _).mono ?_); rintro e w3 ⟨rfl, hb3⟩)
      have hB3 := hB2.trans (hb3.mono hB2.size); clear hb3
      have S4 := Sv.new w3 (HG.out.later hB3)
      go_wp2_with fail
      ((with_reducible refine (HT.out _ _ S4).mono ?_); rintro e w5 ⟨rfl, S5⟩)
      have c0 := S5.st.c0
      rw [show ecode true = 0 from rfl] at c0
      go_wp2_with fail
      ((with_reducible refine (HL2.out _ _ _ S5).mono ?_); rintro e w6 ⟨rfl, S6⟩)
      have c1 := S6.st.c0
      rw [show ecode true = 0 from rfl] at c1
      have HB := Lib.hid (S6.below hB3 hB3.size)
      clear S4 S5 S6 c0
      go_wp2_with fail
      go_region
      all_goals
        go_wp2
        go_ret2
        exact ⟨rfl, HB.out.drew⟩
set_option maxRecDepth 100000 in
theorem qAdd_c (a b : Txt) (w : World) (hg : Good w) (ha : a.length ≤ 140737488355328) (hb : b.length ≤ 140737488355328) : Calls Tryz.prog 112 #[.string ⟨a.toArray⟩, .string ⟨b.toArray⟩] w (Ret w (ans2 (rbin [] addQ a b))) := by
  have hB0 := Below.refl w.heap.size w
  have HM := Lib.hid (show ∀ W, Good W → Calls Tryz.prog 47 #[.string ⟨a.toArray⟩, .string ⟨b.toArray⟩, .func (.func 149) #[] #[]] W (Ret W (ans2 (rbin [] addQ a b))) from fun W hW => by
    rcases rbin_cases a b with ⟨hne, hall⟩ | ⟨p, q, rfl, rfl, hp, hq, h0, hall⟩
    · rw [hall]; exact madeAdd_err a b W hW ha hb hne
    · rw [hall]; exact madeAdd_ok p q W hW hp hq h0)
  have HG := Lib.hid hg
  clear hg ha hb
  generalize rbin [] addQ a b = r at *
  go_enter Tryz.func112, Tryz.ntmps112
  go_wp2_with fail
  ((with_reducible refine (HM.out _ (HG.out.later hB0)).mono ?_); rintro e w1 ⟨rfl, hb1⟩)
  have hB1 := hB0.trans (hb1.mono hB0.size); clear hb1
  go_wp2
  go_ret2
  exact ⟨rfl, hB1⟩
set_option maxRecDepth 100000 in
theorem qSub_c (a b : Txt) (w : World) (hg : Good w) (ha : a.length ≤ 140737488355328) (hb : b.length ≤ 140737488355328) : Calls Tryz.prog 23 #[.string ⟨a.toArray⟩, .string ⟨b.toArray⟩] w (Ret w (ans2 (rbin [] subQ a b))) := by
  have hB0 := Below.refl w.heap.size w
  have HM := Lib.hid (show ∀ W, Good W → Calls Tryz.prog 47 #[.string ⟨a.toArray⟩, .string ⟨b.toArray⟩, .func (.func 48) #[] #[]] W (Ret W (ans2 (rbin [] subQ a b))) from fun W hW => by
    rcases rbin_cases a b with ⟨hne, hall⟩ | ⟨p, q, rfl, rfl, hp, hq, h0, hall⟩
    · rw [hall]; exact madeSub_err a b W hW ha hb hne
    · rw [hall]; exact madeSub_ok p q W hW hp hq h0)
  have HG := Lib.hid hg
  clear hg ha hb
  generalize rbin [] subQ a b = r at *
  go_enter Tryz.func23, Tryz.ntmps23
  go_wp2_with fail
  ((with_reducible refine (HM.out _ (HG.out.later hB0)).mono ?_); rintro e w1 ⟨rfl, hb1⟩)
  have hB1 := hB0.trans (hb1.mono hB0.size); clear hb1
  go_wp2
  go_ret2
  exact ⟨rfl, hB1⟩
set_option maxRecDepth 100000 in
theorem qMul_c (a b : Txt) (w : World) (hg : Good w) (ha : a.length ≤ 140737488355328) (hb : b.length ≤ 140737488355328) : Calls Tryz.prog 90 #[.string ⟨a.toArray⟩, .string ⟨b.toArray⟩] w (Ret w (ans2 (rbin [] mulQ a b))) := by
  have hB0 := Below.refl w.heap.size w
  have HM := Lib.hid (show ∀ W, Good W → Calls Tryz.prog 47 #[.string ⟨a.toArray⟩, .string ⟨b.toArray⟩, .func (.func 120) #[] #[]] W (Ret W (ans2 (rbin [] mulQ a b))) from fun W hW => by
    rcases rbin_cases a b with ⟨hne, hall⟩ | ⟨p, q, rfl, rfl, hp, hq, h0, hall⟩
    · rw [hall]; exact madeMul_err a b W hW ha hb hne
    · rw [hall]; exact madeMul_ok p q W hW hp hq h0)
  have HG := Lib.hid hg
  clear hg ha hb
  generalize rbin [] mulQ a b = r at *
  go_enter Tryz.func90, Tryz.ntmps90
  go_wp2_with fail
  ((with_reducible refine (HM.out _ (HG.out.later hB0)).mono ?_); rintro e w1 ⟨rfl, hb1⟩)
  have hB1 := hB0.trans (hb1.mono hB0.size); clear hb1
  go_wp2
  go_ret2
  exact ⟨rfl, hB1⟩
end Go.Proofs.Wk
