/- POSITION: deviations, the worst of them, what width is needed: plain laws. -/
import Derived.Test.YtdpjkfkmlaphhaaGreatDoorHB
import Derived.Test.YtdpjkfkmlaphhaaGreatDoorKA
namespace Po

/-- A point in space. -/
structure Sp where
  x : Int
  y : Int
  z : Int
  deriving DecidableEq
/-- A torsor of rational numbers. -/
structure TQ where
  t0 : Rat
  t1 : Rat
  t2 : Rat
  w0 : Rat
  w1 : Rat
  w2 : Rat
def at_ (l : List Sp) (i : Nat) : Sp := l.getD i ⟨0, 0, 0⟩
theorem at_get {l : List Sp} {i : Nat} (h : i < l.length) : at_ l i = l[i] := by unfold at_; rw [List.getD_eq_getElem?_getD, List.getElem?_eq_getElem h]; rfl
theorem at_mem {l : List Sp} {i : Nat} (h : i < l.length) : at_ l i ∈ l := by rw [at_get h]; exact List.getElem_mem h
def co (p : Sp) : Nat → Int
  | 0 => p.x
  | 1 => p.y
  | _ => p.z
/-- Where a point goes, one coordinate. -/
def mvd (t : TQ) (p : Sp) : Nat → Rat
  | 0 => (p.x : Rat) + (t.t0 + (p.z : Rat) * t.w1 + ((-p.y : Int) : Rat) * t.w2)
  | 1 => (p.y : Rat) + (t.t1 + ((-p.z : Int) : Rat) * t.w0 + (p.x : Rat) * t.w2)
  | _ => (p.z : Rat) + (t.t2 + (p.y : Rat) * t.w0 + ((-p.x : Int) : Rat) * t.w1)
def dev (at' : Sp) (t : TQ) (p : Sp) (k : Nat) : Rat := mvd t p k - (co at' k : Rat)
/-- Whether a kind of feature on an axis bounds a coordinate: plane 0, hole 1, pin 2, slot 3, ball 4. -/
def bnd (kind axis : Int) (k : Nat) : Bool := if kind = 4 then true else if kind = 1 ∨ kind = 2 then decide ((k : Int) ≠ axis) else decide ((k : Int) = axis)
def axesL (kind axis : Int) : List Nat := (List.range 3).filter (bnd kind axis)
/-- The deviations of a point. -/
def devs (kind axis : Int) (at' : Sp) (t : TQ) (p : Sp) : List Rat := (axesL kind axis).map (dev at' t p)
theorem axesL_len (kind axis : Int) : (axesL kind axis).length ≤ 3 := by
  unfold axesL
  exact Nat.le_trans (List.length_filter_le _ _) (by simp)
theorem axesL_lt {kind axis : Int} {k : Nat} (h : k ∈ axesL kind axis) : k < 3 := List.mem_range.1 (List.mem_filter.1 h).1
theorem axesL_pos {kind axis : Int} (hk : 0 ≤ kind ∧ kind < 5) (ha : 0 ≤ axis ∧ axis < 3) : 0 < (axesL kind axis).length := by
  obtain rfl | rfl | rfl | rfl | rfl : kind = 0 ∨ kind = 1 ∨ kind = 2 ∨ kind = 3 ∨ kind = 4 := by omega
  all_goals obtain rfl | rfl | rfl : axis = 0 ∨ axis = 1 ∨ axis = 2 := by omega
  all_goals decide
/-- What has been found behind k of the three axes. -/
def devsTo (kind axis : Int) (at' : Sp) (t : TQ) (p : Sp) (k : Nat) : List Rat := ((List.range k).filter (bnd kind axis)).map (dev at' t p)
theorem devsTo_three (kind axis : Int) (at' : Sp) (t : TQ) (p : Sp) : devsTo kind axis at' t p 3 = devs kind axis at' t p := rfl
theorem devsTo_yes {kind axis : Int} {at' : Sp} {t : TQ} {p : Sp} {k : Nat} (h : bnd kind axis k = true) : devsTo kind axis at' t p (k + 1) = devsTo kind axis at' t p k ++ [dev at' t p k] := by
  unfold devsTo; rw [List.range_succ, List.filter_append, List.map_append]; simp [h]
theorem devsTo_no {kind axis : Int} {at' : Sp} {t : TQ} {p : Sp} {k : Nat} (h : bnd kind axis k = false) : devsTo kind axis at' t p (k + 1) = devsTo kind axis at' t p k := by
  unfold devsTo; rw [List.range_succ, List.filter_append, List.map_append]; simp [h]
theorem devsTo_len (kind axis : Int) (at' : Sp) (t : TQ) (p : Sp) (k : Nat) : (devsTo kind axis at' t p k).length ≤ k := by
  unfold devsTo; rw [List.length_map]; exact Nat.le_trans (List.length_filter_le _ _) (by simp)

/-! ### Squares -/
/-- The sum and the greatest of the squares of the first k numbers. -/
def sumQ : List Rat → Nat → Rat
  | _, 0 => 0
  | l, k + 1 => sumQ l k + l.getD k 0 * l.getD k 0
def mostQ : List Rat → Nat → Rat
  | _, 0 => 0
  | l, k + 1 => if mostQ l k < l.getD k 0 * l.getD k 0 then l.getD k 0 * l.getD k 0 else mostQ l k
def farQ (l : List Rat) (disc : Bool) : Rat := if disc then sumQ l l.length else mostQ l l.length
theorem sq_nonneg (q : Rat) : 0 ≤ q * q := by
  rcases (Rat.le_total : (0 : Rat) ≤ q ∨ q ≤ 0) with h | h
  · exact Rat.mul_nonneg h h
  · have h1 : 0 ≤ -q := by grind
    have := Rat.mul_nonneg h1 h1
    grind
theorem sumQ_nonneg (l : List Rat) : ∀ k, 0 ≤ sumQ l k
  | 0 => Rat.le_refl
  | k + 1 => by
    have := sumQ_nonneg l k
    have := sq_nonneg (l.getD k 0)
    unfold sumQ; grind
theorem mostQ_nonneg (l : List Rat) : ∀ k, 0 ≤ mostQ l k
  | 0 => Rat.le_refl
  | k + 1 => by
    have := mostQ_nonneg l k
    have := sq_nonneg (l.getD k 0)
    unfold mostQ; split <;> assumption
theorem farQ_nonneg (l : List Rat) (d : Bool) : 0 ≤ farQ l d := by
  unfold farQ; split
  · exact sumQ_nonneg _ _
  · exact mostQ_nonneg _ _
theorem most_le_sum (l : List Rat) : ∀ k, mostQ l k ≤ sumQ l k
  | 0 => Rat.le_refl
  | k + 1 => by
    have h1 := most_le_sum l k
    have h2 := sq_nonneg (l.getD k 0)
    have h3 := sumQ_nonneg l k
    unfold mostQ sumQ; split <;> grind
theorem sum_le_most (l : List Rat) : ∀ k : Nat, sumQ l k ≤ (k : Rat) * mostQ l k
  | 0 => by simp [sumQ]
  | k + 1 => by
    have h1 := sum_le_most l k
    have h2 := mostQ_nonneg l k
    unfold mostQ sumQ
    generalize l.getD k 0 * l.getD k 0 = q at *
    have hk : (0 : Rat) ≤ (k : Rat) := Rat.natCast_nonneg
    rw [show ((k + 1 : Nat) : Rat) = (k : Rat) + 1 by simp]
    split
    · rename_i h
      have := Rat.mul_le_mul_of_nonneg_left (Rat.le_of_lt h) hk
      grind
    · rename_i h
      have := Rat.not_lt.1 h
      grind

/-! ### A width that is enough -/
def fits (q : Rat) (w : Int) : Prop := 4 * q ≤ ((w * w : Int) : Rat)
instance (q : Rat) (w : Int) : Decidable (fits q w) := by unfold fits; infer_instance
def fitB (q : Rat) (w : Int) : Bool := decide (fits q w)
theorem fits_mono {q : Rat} {w v : Int} (h : fits q w) (h0 : 0 ≤ w) (hv : w ≤ v) : fits q v := by
  unfold fits at h ⊢
  refine Rat.le_trans h ?_
  exact Rat.intCast_le_intCast.2 (Int.mul_le_mul hv hv h0 (Int.le_trans h0 hv))
theorem fits_le {p q : Rat} {w : Int} (h : fits q w) (hp : p ≤ q) : fits p w := by
  unfold fits at h ⊢; grind
/-- Points in a round zone are in the box; those in the box are in the round zone of twice the width. -/
theorem nest_box {l : List Rat} {w : Int} (h : fits (farQ l true) w) : fits (farQ l false) w := fits_le h (most_le_sum _ _)
theorem nest_wide {l : List Rat} {w : Int} (hl : l.length ≤ 3) (h : fits (farQ l false) w) : fits (farQ l true) (w + w) := by
  have h1 := sum_le_most l l.length
  have h2 := mostQ_nonneg l l.length
  have h3 : ((l.length : Nat) : Rat) ≤ 3 := by
    have := (Rat.natCast_le_natCast (a := l.length) (b := 3)).2 hl
    simpa using this
  unfold fits at h ⊢
  unfold farQ at h ⊢
  simp only [Bool.false_eq_true, if_false, if_true] at h ⊢
  have h4 := Rat.mul_le_mul_of_nonneg_right h3 h2
  rw [show ((w + w) * (w + w) : Int) = 4 * (w * w) by grind, show ((4 * (w * w) : Int) : Rat) = 4 * ((w * w : Int) : Rat) by simp]
  generalize ((w * w : Int) : Rat) = W at *
  generalize sumQ l l.length = s at *
  generalize mostQ l l.length = m at *
  grind
/-- The least width, up to 200000; 200001 where there is none. -/
def ned (q : Rat) : Nat := ((List.range 200001).find? fun n : Nat => fitB q (n : Int)).getD 200001
theorem ned_le (q : Rat) : ned q ≤ 200001 := by
  unfold ned
  cases h : (List.range 200001).find? fun n : Nat => fitB q (n : Int) with
  | none => exact Nat.le_refl _
  | some n => have := List.mem_range.1 (List.mem_of_find?_eq_some h); simp; omega
theorem find_range {p : Nat → Bool} {n i : Nat} (h : (List.range n).find? p = some i) : p i = true ∧ i < n ∧ ∀ j, j < i → p j = false := by
  rw [List.find?_range_eq_some] at h
  exact ⟨h.1, List.mem_range.1 h.2.1, fun j hj => by simpa using h.2.2 j hj⟩
theorem ned_iff {q : Rat} {w : Nat} (hw : w ≤ 200000) : fits q (w : Int) ↔ ned q ≤ w := by
  unfold ned
  cases h : (List.range 200001).find? fun n : Nat => fitB q (n : Int) with
  | none =>
    constructor
    · intro hf
      have := List.find?_eq_none.1 h w (List.mem_range.2 (by omega))
      unfold fitB at this
      simp [hf] at this
    · intro hf
      simp at hf; omega
  | some n =>
    obtain ⟨h1, h2, h3⟩ := find_range h
    have h1' : fits q (n : Int) := of_decide_eq_true h1
    constructor
    · intro hf
      simp only [Option.getD_some]
      rcases Nat.lt_or_ge w n with hl | hl
      · have h4 := h3 w hl
        have h5 : ¬ fits q (w : Int) := of_decide_eq_false h4
        exact absurd hf h5
      · exact hl
    · intro hf
      simp only [Option.getD_some] at hf
      exact fits_mono h1' (by omega) (by omega)

/-! ### The worst point -/
/-- The greatest of the first n values, and the first place that has it. -/
def wst (f : Nat → Rat) : Nat → Rat × Nat
  | 0 => (-1, 0)
  | n + 1 => if (wst f n).1 < f n then (f n, n) else wst f n
theorem wst_lt (f : Nat → Rat) : ∀ n, 0 < n → (wst f n).2 < n
  | n + 1, _ => by
    unfold wst; split
    · exact Nat.lt_succ_self _
    · rcases Nat.eq_zero_or_pos n with rfl | h
      · exact Nat.lt_succ_self _
      · exact Nat.lt_succ_of_lt (wst_lt f n h)
theorem wst_ge (f : Nat → Rat) : ∀ n i, i < n → f i ≤ (wst f n).1
  | n + 1, i, h => by
    unfold wst
    rcases Nat.lt_succ_iff_lt_or_eq.1 h with h | rfl
    · have := wst_ge f n i h
      split <;> grind
    · split
      · exact Rat.le_refl
      · rename_i h; exact Rat.not_lt.1 h
theorem wst_nonneg {f : Nat → Rat} (hf : ∀ i, 0 ≤ f i) {n : Nat} (h : 0 < n) : 0 ≤ (wst f n).1 := Rat.le_trans (hf 0) (wst_ge f n 0 h)
theorem wst_is {f : Nat → Rat} (hf : ∀ i, 0 ≤ f i) : ∀ n, 0 < n → (wst f n).1 = f (wst f n).2
  | n + 1, _ => by
    unfold wst
    rcases Nat.eq_zero_or_pos n with rfl | h
    · rw [if_pos (by have := hf 0; show (-1 : Rat) < f 0; grind)]
    · split
      · rfl
      · exact wst_is hf n h
theorem wst_one {f : Nat → Rat} (hf : ∀ i, 0 ≤ f i) : wst f 1 = (f 0, 0) := by
  unfold wst
  rw [if_pos (by have := hf 0; show (-1 : Rat) < f 0; grind)]
theorem wst_congr {f g : Nat → Rat} : ∀ {n : Nat}, (∀ i, i < n → f i = g i) → wst f n = wst g n
  | 0, _ => rfl
  | n + 1, h => by
    unfold wst
    rw [wst_congr fun i hi => h i (Nat.lt_succ_of_lt hi), h n (Nat.lt_succ_self n)]
/-- All points are in a zone just if the worst is. -/
theorem wst_fits {f : Nat → Rat} (hf : ∀ i, 0 ≤ f i) {n : Nat} (h : 0 < n) {w : Int} : fits (wst f n).1 w ↔ ∀ i, i < n → fits (f i) w :=
  ⟨fun hw i hi => fits_le hw (wst_ge f n i hi), fun ha => by rw [wst_is hf n h]; exact ha _ (wst_lt f n h)⟩
/-- The first point outside, or -1. -/
def outI (f : Nat → Rat) (w : Int) (n : Nat) : Int := match (List.range n).find? fun i : Nat => !fitB (f i) w with
  | some i => (i : Int)
  | none => -1
theorem outI_none {f : Nat → Rat} {w : Int} {n : Nat} (h : ∀ i, i < n → fitB (f i) w = true) : outI f w n = -1 := by
  unfold outI
  rw [List.find?_eq_none.2 fun i hi => by rw [h i (List.mem_range.1 hi)]; decide]
theorem outI_some {f : Nat → Rat} {w : Int} {n i : Nat} (hi : i < n) (h : ∀ j, j < i → fitB (f j) w = true) (hn : fitB (f i) w = false) : outI f w n = (i : Int) := by
  unfold outI
  rw [List.find?_range_eq_some.2 ⟨by rw [hn]; rfl, List.mem_range.2 hi, fun j hj => by rw [h j hj]; rfl⟩]
theorem outI_cases (f : Nat → Rat) (w : Int) (n : Nat) : (outI f w n = -1 ∧ ∀ i, i < n → fits (f i) w) ∨ ∃ i : Nat, outI f w n = (i : Int) ∧ i < n ∧ ¬ fits (f i) w := by
  unfold outI
  cases h : (List.range n).find? fun i : Nat => !fitB (f i) w with
  | none =>
    refine .inl ⟨rfl, fun i hi => ?_⟩
    have := List.find?_eq_none.1 h i (List.mem_range.2 hi)
    unfold fitB at this
    simpa using this
  | some i =>
    obtain ⟨h1, h2, -⟩ := find_range h
    refine .inr ⟨i, rfl, h2, ?_⟩
    unfold fitB at h1
    simpa using h1
theorem outI_congr {f g : Nat → Rat} {w : Int} {n : Nat} (h : ∀ i, i < n → f i = g i) : outI f w n = outI g w n := by
  rcases outI_cases f w n with ⟨-, h2⟩ | ⟨i, -, -, -⟩
  · rw [outI_none fun i hi => decide_eq_true (h2 i hi), outI_none fun i hi => decide_eq_true (h i hi ▸ h2 i hi)]
  · unfold outI
    have : ∀ m, m ≤ n → ((List.range m).find? fun i : Nat => !fitB (f i) w) = ((List.range m).find? fun i : Nat => !fitB (g i) w) := by
      intro m
      induction m with
      | zero => intro _; rfl
      | succ m ih => intro hm; rw [List.range_succ, List.find?_append, List.find?_append, ih (by omega)]; simp [h m (by omega)]
    rw [this n (Nat.le_refl _)]

/-! ### A feature that is moved -/
def addP (p b : Sp) : Sp := ⟨p.x + b.x, p.y + b.y, p.z + b.z⟩
def addT (t : TQ) (b : Sp) : TQ := ⟨t.t0 + (b.x : Rat), t.t1 + (b.y : Rat), t.t2 + (b.z : Rat), t.w0, t.w1, t.w2⟩
def still (t : TQ) : TQ := ⟨t.t0, t.t1, t.t2, 0, 0, 0⟩
theorem dev_shift (at' : Sp) (t : TQ) (p b : Sp) (k : Nat) : dev (addP at' b) (addT t b) p k = dev at' t p k := by
  unfold dev
  match k with
  | 0 => simp only [mvd, co, addP, addT, Rat.intCast_add]; grind
  | 1 => simp only [mvd, co, addP, addT, Rat.intCast_add]; grind
  | _ + 2 => simp only [mvd, co, addP, addT, Rat.intCast_add]; grind
theorem dev_still (at' : Sp) (t : TQ) (p b : Sp) (k : Nat) : dev (addP at' b) (still t) (addP p b) k = dev at' (still t) p k := by
  unfold dev
  match k with
  | 0 => simp only [mvd, co, addP, still, Rat.intCast_add, Rat.mul_zero]; grind
  | 1 => simp only [mvd, co, addP, still, Rat.intCast_add, Rat.mul_zero]; grind
  | _ + 2 => simp only [mvd, co, addP, still, Rat.intCast_add, Rat.mul_zero]; grind
theorem devs_shift (kind axis : Int) (at' : Sp) (t : TQ) (p b : Sp) : devs kind axis (addP at' b) (addT t b) p = devs kind axis at' t p := by
  unfold devs; exact List.map_congr_left fun k _ => dev_shift at' t p b k
theorem devs_still (kind axis : Int) (at' : Sp) (t : TQ) (p b : Sp) : devs kind axis (addP at' b) (still t) (addP p b) = devs kind axis at' (still t) p := by
  unfold devs; exact List.map_congr_left fun k _ => dev_still at' t p b k
end Po
/- POSITION: how long its numbers are: plain laws. -/
namespace Go.Proofs.Wk
open Go.RowKit Mt Po

/-- The denominator has at most d digits, the numerator at most d + v. -/
def szV (q : Rat) (d v : Nat) : Prop := lng (q.den : Int) ≤ d ∧ lng q.num ≤ d + v
theorem szV.mono {q : Rat} {d v e u : Nat} (h : szV q d v) (hd : d ≤ e) (hv : v ≤ u) : szV q e u := ⟨Nat.le_trans h.1 hd, Nat.le_trans h.2 (Nat.add_le_add hd hv)⟩
theorem szV.sz {q : Rat} {d v : Nat} (h : szV q d v) : szQ q (d + v) := ⟨h.2, Nat.le_trans h.1 (Nat.le_add_right _ _)⟩
theorem szV.big {q : Rat} {d v k : Nat} (h : szV q d v) (hk : d + v ≤ k) : szQ q k := h.sz.mono hk
theorem szQ.v {q : Rat} {k : Nat} (h : szQ q k) : szV q k 0 := ⟨h.2, h.1⟩
theorem szV_divInt {m n : Int} {d v : Nat} (hm : lng m ≤ d + v) (hn : lng n ≤ d) (h : n ≠ 0) : szV (Rat.divInt m n) d v :=
  ⟨Nat.le_trans (lng_mono (by have := low_le_den (m := m) h; simpa using this)) hn, Nat.le_trans (lng_mono (low_le_num h)) hm⟩
theorem szV_mul {p q : Rat} {a u b v : Nat} (hp : szV p a u) (hq : szV q b v) : szV (p * q) (a + b) (u + v) := by
  rw [← mul_divInt]
  exact szV_divInt (by have := lng_mul _ _ hp.2 hq.2; omega) (lng_mul _ _ hp.1 hq.1) (Int.mul_ne_zero (den_ne p) (den_ne q))
theorem szV_add {p q : Rat} {a u b v m : Nat} (hp : szV p a u) (hq : szV q b v) (hu : u ≤ m) (hv : v ≤ m) : szV (p + q) (a + b) (m + 1) := by
  rw [← add_divInt]
  exact szV_divInt (lng_add _ _ (k := a + b + m) (by have := lng_mul _ _ hp.2 hq.1; omega) (by have := lng_mul _ _ hq.2 hp.1; omega)) (lng_mul _ _ hp.1 hq.1) (Int.mul_ne_zero (den_ne p) (den_ne q))
theorem szV_neg {p : Rat} {a u : Nat} (h : szV p a u) : szV (-p) a u := ⟨by rw [Rat.neg_den]; exact h.1, by rw [Rat.neg_num, lng_neg]; exact h.2⟩
theorem szV_sub {p q : Rat} {a u b v m : Nat} (hp : szV p a u) (hq : szV q b v) (hu : u ≤ m) (hv : v ≤ m) : szV (p - q) (a + b) (m + 1) := by
  rw [Rat.sub_eq_add_neg]; exact szV_add hp (szV_neg hq) hu hv
theorem szV_int {n : Int} {v : Nat} (h : lng n ≤ 1 + v) : szV (n : Rat) 1 v := ⟨(lng_le 1 (k := 1) (by omega)).2 (by decide), h⟩
theorem szV_zero : szV 0 1 0 := szV_int (n := 0) ((lng_le 0 (k := 1) (by omega)).2 (by decide))
theorem szV_co {n : Int} (h : -100000 ≤ n ∧ n ≤ 100000) : szV (n : Rat) 1 5 := szV_int ((lng_le n (k := 6) (by omega)).2 (by omega))
theorem szV_sq {n : Int} (h : 0 ≤ n ∧ n ≤ 200000) : szV ((n * n : Int) : Rat) 1 10 := by
  refine szV_int ((lng_le (n * n) (k := 11) (by omega)).2 ?_)
  have h1 := Int.mul_le_mul h.2 h.2 h.1 (by omega)
  have h2 := Int.mul_nonneg h.1 h.1
  omega
theorem szV_four : szV 4 1 0 := szV_int (n := 4) ((lng_le 4 (k := 1) (by omega)).2 (by decide))
theorem addQ_v {p q : Rat} {a u b v m : Nat} (hp : szV p a u) (hq : szV q b v) (hu : u ≤ m) (hv : v ≤ m) (hk : a + b + m < 1024) : addQ p q = (rtoa (p + q), 0) := by
  unfold addQ
  have h1 := lng_mul _ _ hp.2 hq.1; have h2 := lng_mul _ _ hq.2 hp.1; have h3 := lng_mul _ _ hp.1 hq.1
  have h4 := lng_add (p.num * q.den) (q.num * p.den) (k := a + b + m) (by omega) (by omega)
  rw [if_pos (allB_lng fun n hn => by simp at hn; rcases hn with rfl | rfl | rfl | rfl <;> omega)]
theorem subQ_v {p q : Rat} {a u b v m : Nat} (hp : szV p a u) (hq : szV q b v) (hu : u ≤ m) (hv : v ≤ m) (hk : a + b + m < 1024) : subQ p q = (rtoa (p - q), 0) := by
  unfold subQ
  have h1 := lng_mul _ _ hp.2 hq.1; have h2 := lng_mul _ _ hq.2 hp.1; have h3 := lng_mul _ _ hp.1 hq.1
  have h4 : lng (p.num * q.den - q.num * p.den) ≤ a + b + m + 1 := by
    rw [Int.sub_eq_add_neg]; exact lng_add _ _ (by omega) (by rw [lng_neg]; omega)
  rw [if_pos (allB_lng fun n hn => by simp at hn; rcases hn with rfl | rfl | rfl | rfl <;> omega)]
theorem mulQ_v {p q : Rat} {a u b v : Nat} (hp : szV p a u) (hq : szV q b v) (hk : a + b + (u + v) ≤ 1024) : mulQ p q = (rtoa (p * q), 0) := by
  unfold mulQ
  have h1 := lng_mul _ _ hp.2 hq.2; have h3 := lng_mul _ _ hp.1 hq.1
  rw [if_pos (allB_lng fun n hn => by simp at hn; rcases hn with rfl | rfl <;> omega)]
theorem cmpE_v {p q : Rat} {a u b v m : Nat} (hp : szV p a u) (hq : szV q b v) (hu : u ≤ m) (hv : v ≤ m) (hk : a + b + m ≤ 1024) : cmpE p q = (cmpQ p q, 0) := by
  unfold cmpE
  have h1 := lng_mul _ _ hp.2 hq.1; have h3 := lng_mul _ _ hq.2 hp.1
  rw [if_pos (allB_lng fun n hn => by simp at hn; rcases hn with rfl | rfl <;> omega)]

/-! ### Torsors of short numbers, points in their range -/
structure ShT (t : TQ) : Prop where
  t0 : szV t.t0 25 0
  t1 : szV t.t1 25 0
  t2 : szV t.t2 25 0
  w0 : szV t.w0 25 0
  w1 : szV t.w1 25 0
  w2 : szV t.w2 25 0
def InP (p : Sp) : Prop := (-100000 ≤ p.x ∧ p.x ≤ 100000) ∧ (-100000 ≤ p.y ∧ p.y ≤ 100000) ∧ (-100000 ≤ p.z ∧ p.z ≤ 100000)
instance (p : Sp) : Decidable (InP p) := by unfold InP; infer_instance
theorem InP.co {p : Sp} (h : InP p) (k : Nat) : -100000 ≤ co p k ∧ co p k ≤ 100000 := by
  obtain ⟨h1, h2, h3⟩ := h
  match k with
  | 0 => exact h1
  | 1 => exact h2
  | _ + 2 => exact h3
/-- A sum of a shift and two turns, with a coordinate. -/
theorem sz_term {s a b : Rat} {x m n : Int} (hs : szV s 25 0) (ha : szV a 25 0) (hb : szV b 25 0) (hm : -100000 ≤ m ∧ m ≤ 100000) (hn : -100000 ≤ n ∧ n ≤ 100000) (hx : -100000 ≤ x ∧ x ≤ 100000) :
    szV ((m : Rat) * a) 26 5 ∧ szV ((n : Rat) * b) 26 5 ∧ szV (s + (m : Rat) * a) 51 6 ∧ szV (s + (m : Rat) * a + (n : Rat) * b) 77 7 ∧ szV ((x : Rat) + (s + (m : Rat) * a + (n : Rat) * b)) 78 8 := by
  have h1 := szV_mul (szV_co hm) ha
  have h2 := szV_mul (szV_co hn) hb
  have h3 := szV_add hs h1 (m := 5) (by omega) (by omega)
  have h4 := szV_add h3 h2 (m := 6) (by omega) (by omega)
  have h5 := szV_add (szV_co hx) h4 (m := 7) (by omega) (by omega)
  exact ⟨h1, h2, h3, h4, h5⟩
theorem sz_mvd {t : TQ} {p : Sp} (ht : ShT t) (hp : InP p) (k : Nat) : szV (mvd t p k) 78 8 := by
  obtain ⟨h1, h2, h3⟩ := hp
  match k with
  | 0 => exact (sz_term ht.t0 ht.w1 ht.w2 h3 (by omega) h1).2.2.2.2
  | 1 => exact (sz_term ht.t1 ht.w0 ht.w2 (by omega) h1 h2).2.2.2.2
  | _ + 2 => exact (sz_term ht.t2 ht.w0 ht.w1 h2 (by omega) h3).2.2.2.2
theorem sz_dev {t : TQ} {p a : Sp} (ht : ShT t) (hp : InP p) (ha : InP a) (k : Nat) : szV (dev a t p k) 79 9 := szV_sub (sz_mvd ht hp k) (szV_co (ha.co k)) (by omega) (by omega)
/-- Lists of deviations: few and short. -/
def ShL (l : List Rat) : Prop := l.length ≤ 3 ∧ ∀ q ∈ l, szV q 79 9
theorem sh_devs {t : TQ} {p a : Sp} (ht : ShT t) (hp : InP p) (ha : InP a) (kind axis : Int) : ShL (devs kind axis a t p) := by
  refine ⟨by unfold devs; rw [List.length_map]; exact axesL_len _ _, fun q hq => ?_⟩
  unfold devs at hq
  obtain ⟨k, -, rfl⟩ := List.mem_map.1 hq
  exact sz_dev ht hp ha k
theorem ShL.get {l : List Rat} (h : ShL l) (k : Nat) : szV (l.getD k 0) 79 9 := by
  rw [List.getD_eq_getElem?_getD]
  rcases Nat.lt_or_ge k l.length with hk | hk
  · rw [List.getElem?_eq_getElem hk]; exact h.2 _ (List.getElem_mem hk)
  · rw [List.getElem?_eq_none hk]; exact szV_zero.mono (by omega) (by omega)
theorem ShL.sq {l : List Rat} (h : ShL l) (k : Nat) : szV (l.getD k 0 * l.getD k 0) 158 18 := szV_mul (h.get k) (h.get k)
theorem sz_sum {l : List Rat} (h : ShL l) : ∀ k, szV (sumQ l k) (1 + 158 * k) (18 + k)
  | 0 => szV_zero.mono (by omega) (by omega)
  | k + 1 => by
    have h1 := sz_sum h k
    have h2 := h.sq k
    exact (szV_add h1 h2 (m := 18 + k) (by omega) (by omega)).mono (by omega) (by omega)
theorem sz_most {l : List Rat} (h : ShL l) : ∀ k, szV (mostQ l k) 158 18
  | 0 => szV_zero.mono (by omega) (by omega)
  | k + 1 => by
    have h1 := sz_most h k
    have h2 := h.sq k
    unfold mostQ
    split
    · exact h2
    · exact h1
theorem sz_far {l : List Rat} (h : ShL l) (d : Bool) : szV (farQ l d) 475 21 := by
  unfold farQ
  cases d with
  | true => exact (sz_sum h _).mono (by have := h.1; omega) (by have := h.1; omega)
  | false => exact (sz_most h _).mono (by omega) (by omega)
theorem sz_wst {f : Nat → Rat} {n : Nat} (h : ∀ i, i < n → szV (f i) 475 21) : ∀ k, k ≤ n → szV (wst f k).1 475 21
  | 0, _ => ((szV_neg (szV_int (n := 1) (v := 0) ((lng_le 1 (k := 1) (by omega)).2 (by decide)))).mono (by omega) (by omega) : szV (-1) 475 21)
  | k + 1, hk => by
    unfold wst
    split
    · exact h k (by omega)
    · exact sz_wst h k (by omega)
/-- The order of two squared deviations: known, and what it says. -/
theorem cmpQ_pos {p q : Rat} : 0 < cmpQ p q ↔ q < p := by
  rw [cmpQ_sub]
  constructor
  · intro h
    rcases sgnQ_spec (p - q) with ⟨-, e⟩ | ⟨-, e⟩ | ⟨h1, -⟩
    · omega
    · omega
    · grind
  · intro h
    rw [sgnQ_pos1 (by grind)]; omega
theorem cmpQ_nonpos {p q : Rat} : cmpQ p q ≤ 0 ↔ p ≤ q := by
  have := cmpQ_pos (p := p) (q := q)
  constructor
  · intro h; exact Rat.not_lt.1 fun c => by have := this.2 c; omega
  · intro h
    rcases Int.lt_or_le 0 (cmpQ p q) with c | c
    · exact absurd (this.1 c) (Rat.not_lt.2 h)
    · exact c
end Go.Proofs.Wk
/- POSITION: features, frames and their errors: plain laws. -/
namespace Po
open Go.Proofs Go.Proofs.Wk Mt

/-- A feature without its frames, a frame without its datums, a datum. -/
structure Ft where
  nm : Txt
  kind : Int
  axis : Int
  pos : Sp
  lo : Int
  hi : Int
structure Fm where
  kind : Int
  disc : Bool
  tol : Int
  mat : Int
structure Dt where
  nm : Txt
  mat : Int
def inC (n : Int) : Bool := decide (-100000 ≤ n ∧ n ≤ 100000)
def limE (lo hi : Int) : Int := if ¬ (inC lo = true ∧ inC hi = true) then 2 else if hi < lo then 9 else 0
def inP (p : Sp) : Bool := decide (InP p)
theorem inP_eq (p : Sp) : inP p = (inC p.x && (inC p.y && inC p.z)) := by
  rw [Bool.eq_iff_iff]
  unfold inP inC
  simp only [Bool.and_eq_true, decide_eq_true_eq]
  rfl
def ftE (f : Ft) : Int :=
  if Rg.nameE f.nm ≠ 0 then Rg.nameE f.nm
  else if f.kind < 0 ∨ 5 ≤ f.kind ∨ f.axis < 0 ∨ 3 ≤ f.axis then 1
  else if f.kind = 4 ∧ f.axis ≠ 0 then 3
  else if inP f.pos = false then 2
  else if f.kind = 0 then (if f.lo = 0 ∧ f.hi = 0 then 0 else 3)
  else if limE f.lo f.hi ≠ 0 then limE f.lo f.hi
  else if f.lo < 1 then 2 else 0
theorem ftE_ok {f : Ft} (h : ftE f = 0) : (0 ≤ f.kind ∧ f.kind < 5) ∧ (0 ≤ f.axis ∧ f.axis < 3) ∧ InP f.pos ∧ (f.kind = 4 → f.axis = 0) ∧ (f.kind = 0 ∨ (1 ≤ f.lo ∧ f.lo ≤ f.hi ∧ f.hi ≤ 100000)) := by
  unfold ftE at h
  split at h
  · contradiction
  split at h
  · omega
  split at h
  · omega
  split at h
  · omega
  rename_i h1 h2 h3 h4
  have hp : InP f.pos := of_decide_eq_true (by simpa [inP] using h4)
  refine ⟨by omega, by omega, hp, fun e => Classical.byContradiction fun q => h3 ⟨e, q⟩, ?_⟩
  split at h
  · left; assumption
  right
  split at h
  · contradiction
  split at h
  · omega
  rename_i h5 h6 h7
  unfold limE at h6
  split at h6
  · simp at h6
  split at h6
  · simp at h6
  rename_i h8 h9
  have h8' := Classical.not_not.1 h8
  unfold inC at h8'
  simp only [decide_eq_true_eq] at h8'
  omega
def matE (m : Int) : Int := if m < 0 ∨ 3 ≤ m then 1 else 0
/-- The error of a datum behind others. -/
def dtE (p : List Dt) (d : Dt) : Int := if Rg.nameE d.nm ≠ 0 then Rg.nameE d.nm else if (p.any fun y => y.nm == d.nm) = true then 7 else matE d.mat
def dtsE : List Dt → List Dt → Int
  | _, [] => 0
  | p, d :: r => if dtE p d = 0 then dtsE (p ++ [d]) r else dtE p d
theorem dtsE_step {ds : List Dt} {i : Nat} (h : i < ds.length) : dtsE (ds.take i) (ds.drop i) = if dtE (ds.take i) ds[i] = 0 then dtsE (ds.take (i + 1)) (ds.drop (i + 1)) else dtE (ds.take i) ds[i] := by
  rw [List.drop_eq_getElem_cons h, dtsE, List.take_succ_eq_append_getElem h]
theorem dtsE_end (ds : List Dt) : dtsE (ds.take ds.length) (ds.drop ds.length) = 0 := by rw [List.drop_length]; rfl
def plE (x : Fm) (ds : List Dt) : Int :=
  if x.kind < 0 ∨ 9 ≤ x.kind then 1 else if matE x.mat ≠ 0 then matE x.mat else if x.tol < 0 ∨ 100000 < x.tol then 2 else if 3 < ds.length then 5 else dtsE [] ds
/-- The rows of kinds of frames: which features, which of them with a round zone, how many datums, whether a material condition. -/
def onK : Nat → List Int
  | 0 => [1, 2] | 1 => [0, 3] | 2 => [0, 1, 2, 3] | 3 => [0, 1, 2, 3] | 4 => [1, 2, 4] | 5 => [4] | 6 => [0] | 7 => [0, 1, 2] | _ => [0, 1, 2, 3, 4]
def dsK : Nat → List Int
  | 0 => [1, 2] | 2 => [1, 2] | 3 => [1, 2] | 8 => [1, 2, 4] | _ => []
def leK : Nat → Int
  | 2 => 1 | 3 => 1 | 7 => 1 | _ => 0
def moK : Nat → Int
  | 2 => 2 | 3 => 2 | 6 => 3 | 7 => 1 | 8 => 3 | _ => 0
def maK : Nat → Bool
  | 0 => true | 2 => true | 3 => true | 8 => true | _ => false
def pmE (f : Ft) (x : Fm) (n : Nat) : Int :=
  if (onK x.kind.toNat).contains f.kind = false then 14
  else if x.disc = true ∧ (dsK x.kind.toNat).contains f.kind = false then 3
  else if x.tol = 0 ∧ x.mat ≠ 1 then 10
  else if x.mat ≠ 0 ∧ (maK x.kind.toNat = false ∨ f.kind = 0) then 3
  else if (n : Int) < leK x.kind.toNat then 13
  else if moK x.kind.toNat < (n : Int) then 5 else 0
def frE (f : Ft) (x : Fm) (ds : List Dt) : Int :=
  if ftE f ≠ 0 then ftE f else if plE x ds ≠ 0 then plE x ds else if pmE f x ds.length ≠ 0 then pmE f x ds.length else if (ds.any fun d => d.nm == f.nm) = true then 7 else 0
theorem frE_ok {f : Ft} {x : Fm} {ds : List Dt} (h : frE f x ds = 0) : ftE f = 0 ∧ plE x ds = 0 ∧ pmE f x ds.length = 0 ∧ (ds.any fun d => d.nm == f.nm) = false := by
  unfold frE at h
  split at h
  · contradiction
  split at h
  · contradiction
  split at h
  · contradiction
  split at h
  · omega
  rename_i h1 h2 h3 h4
  exact ⟨Classical.not_not.1 h1, Classical.not_not.1 h2, Classical.not_not.1 h3, by simpa using h4⟩
theorem plE_ok {x : Fm} {ds : List Dt} (h : plE x ds = 0) : (0 ≤ x.kind ∧ x.kind < 9) ∧ (0 ≤ x.mat ∧ x.mat < 3) ∧ (0 ≤ x.tol ∧ x.tol ≤ 100000) ∧ ds.length ≤ 3 := by
  unfold plE at h
  split at h
  · omega
  split at h
  · contradiction
  split at h
  · omega
  split at h
  · omega
  rename_i h1 h2 h3 h4
  unfold matE at h2
  refine ⟨by omega, ?_, by omega, by omega⟩
  split at h2
  · simp at h2
  · omega
/-- A frame with a round zone may have a box. -/
theorem frE_box {f : Ft} {x : Fm} {ds : List Dt} (h : frE f x ds = 0) : frE f { x with disc := false } ds = 0 := by
  obtain ⟨h1, h2, h3, h4⟩ := frE_ok h
  have e2 : plE { x with disc := false } ds = plE x ds := rfl
  have e3 : pmE f { x with disc := false } ds.length = 0 := by
    unfold pmE at h3 ⊢
    split at h3
    · omega
    split at h3
    · omega
    rename_i q1 q2
    rw [if_neg q1, if_neg (by simp)]
    exact h3
  unfold frE
  rw [if_neg (by simpa using h1), if_neg (by rw [e2]; simpa using h2), if_neg (by simpa using e3), if_neg (by rw [h4]; decide)]
def chkS (l : List Sp) : Int := if 64 < l.length then 5 else if l.all inP = true then 0 else 2
/-- The error of a case. -/
def caE (f : Ft) (x : Fm) (b : Int) (ds : List Dt) (ls : List Sp) : Int :=
  if frE f x ds ≠ 0 then frE f x ds else if x.kind ≠ 8 then 1 else if b < 0 ∨ 100000 < b then 2 else chkS ls
theorem chkS_ok {l : List Sp} (h : chkS l = 0) : l.length ≤ 64 ∧ ∀ p ∈ l, InP p := by
  unfold chkS at h
  split at h
  · cases h
  · split at h
    · rename_i h1 h2
      exact ⟨by omega, fun p hp => of_decide_eq_true (List.all_eq_true.1 h2 p hp)⟩
    · cases h
theorem caE_ok {f : Ft} {x : Fm} {b : Int} {ds : List Dt} {ls : List Sp} (h : caE f x b ds ls = 0) : frE f x ds = 0 ∧ x.kind = 8 ∧ (0 ≤ b ∧ b ≤ 100000) ∧ chkS ls = 0 := by
  unfold caE at h
  split at h
  · contradiction
  split at h
  · omega
  split at h
  · omega
  rename_i h1 h2 h3
  exact ⟨Classical.not_not.1 h1, Classical.not_not.1 h2, by omega, h⟩
theorem caE_mk {f : Ft} {x : Fm} {b : Int} {ds : List Dt} {ls : List Sp} (h1 : frE f x ds = 0) (h2 : x.kind = 8) (h3 : 0 ≤ b ∧ b ≤ 100000) (h4 : chkS ls = 0) : caE f x b ds ls = 0 := by
  unfold caE
  rw [if_neg (by simpa using h1), if_neg (by simpa using h2), if_neg (by omega)]; exact h4
end Po
