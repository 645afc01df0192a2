/- STRAIGHTNESS: what the reference computes: plain laws. -/
import Derived.Test.YtjopphkhpmoedaaGreatDoorNB
namespace St

/-- Whether points lie on the left, on the right. -/
def rsF (a b : Pt) : List Pt → Bool × Bool → Bool × Bool
  | [], s => s
  | p :: t, s => rsF a b t (s.1 || decide (0 < left a b p), s.2 || decide (left a b p < 0))
theorem rsF_spec (a b : Pt) : ∀ (l : List Pt) (s : Bool × Bool), ((rsF a b l s).1 = true ↔ s.1 = true ∨ ∃ x ∈ l, 0 < left a b x) ∧ ((rsF a b l s).2 = true ↔ s.2 = true ∨ ∃ x ∈ l, left a b x < 0)
  | [], s => by simp [rsF]
  | p :: t, s => by
    obtain ⟨h1, h2⟩ := rsF_spec a b t (s.1 || decide (0 < left a b p), s.2 || decide (left a b p < 0))
    simp only [rsF, h1, h2, Bool.or_eq_true, decide_eq_true_eq, List.mem_cons, exists_eq_or_imp, or_assoc, and_self]
theorem supports_eq (l : List Pt) (i j : Nat) : (decide (at_ l i ≠ at_ l j) && !((rsF (at_ l i) (at_ l j) l (false, false)).1 && (rsF (at_ l i) (at_ l j) l (false, false)).2)) = okP l i j := by
  obtain ⟨h1, h2⟩ := rsF_spec (at_ l i) (at_ l j) l (false, false)
  simp only [Bool.false_eq_true, false_or] at h1 h2
  rw [Bool.eq_iff_iff, okP_iff, Bool.and_eq_true, decide_eq_true_eq, Bool.not_eq_true', Bool.and_eq_false_iff, ← Bool.not_eq_true, ← Bool.not_eq_true, h1, h2]
  refine and_congr_right fun _ => ?_
  unfold one
  constructor
  · rintro (h | h)
    · exact .inr fun x hx => by rcases Int.lt_or_le 0 (left (at_ l i) (at_ l j) x) with q | q; exact absurd ⟨x, hx, q⟩ h; exact q
    · exact .inl fun x hx => by rcases Int.lt_or_le (left (at_ l i) (at_ l j) x) 0 with q | q; exact absurd ⟨x, hx, q⟩ h; exact q
  · rintro (h | h)
    · exact .inr fun ⟨x, hx, q⟩ => by have := h x hx; omega
    · exact .inl fun ⟨x, hx, q⟩ => by have := h x hx; omega
/-- The farthest point, by its squared distance. -/
def rfF (a b : Pt) : List Pt → Nat → Rat × Nat → Rat × Nat
  | [], _, s => s
  | p :: t, k, s => rfF a b t (k + 1) (if s.1 < wq (left a b p) a b then (wq (left a b p) a b, k) else s)
theorem wq_lt {n m : Int} {a b : Pt} (h : a ≠ b) (hn : 0 ≤ n) : wq n a b < wq m a b ↔ n < max m (-m) := by
  rw [← Rat.not_le, wq_le h h]
  have hf := far_pos h
  have key : (m * m * far a b ≤ n * n * far a b) ↔ m * m ≤ n * n := by
    constructor
    · intro q; exact Int.le_of_mul_le_mul_right q hf
    · intro q; exact Int.mul_le_mul_of_nonneg_right q (Int.le_of_lt hf)
  rw [key]
  constructor
  · intro q
    rcases Int.lt_or_le n (max m (-m)) with c | c
    · exact c
    · exact absurd (abs_sq hn (by omega) (by omega)) q
  · intro q c
    have : max m (-m) * max m (-m) = m * m := by
      rcases Int.le_total 0 m with d | d
      · rw [show max m (-m) = m by omega]
      · rw [show max m (-m) = -m by omega, Int.neg_mul_neg]
    rw [← this] at c
    have h1 := Int.mul_lt_mul_of_pos_left q (show 0 < max m (-m) by omega)
    have h2 := Int.mul_le_mul_of_nonneg_left (Int.le_of_lt q) hn
    have h3 := Int.mul_comm n (max m (-m))
    omega
theorem rfF_eq {a b : Pt} (h : a ≠ b) : ∀ (l : List Pt) (k : Nat) (s : Sp), 0 ≤ s.area → rfF a b l k (wq s.area a b, s.far) = (wq (supF a b l k s).area a b, (supF a b l k s).far)
  | [], _, _, _ => rfl
  | p :: t, k, s, h0 => by
    have e : (supS a b p k s).area = if s.area < max (left a b p) (-(left a b p)) then max (left a b p) (-(left a b p)) else s.area := rfl
    have ef : (supS a b p k s).far = if s.area < max (left a b p) (-(left a b p)) then k else s.far := rfl
    have ih := rfF_eq h t (k + 1) (supS a b p k s) (by rw [e]; split <;> omega)
    show rfF a b t (k + 1) (if wq s.area a b < wq (left a b p) a b then (wq (left a b p) a b, k) else (wq s.area a b, s.far)) = _
    rw [show supF a b (p :: t) k s = supF a b t (k + 1) (supS a b p k s) from rfl, ← ih, e, ef]
    by_cases c : s.area < max (left a b p) (-(left a b p))
    · rw [if_pos c, if_pos c, if_pos ((wq_lt h h0).2 c)]
      congr 2
      unfold wq
      congr 1
      rcases Int.le_total 0 (left a b p) with d | d
      · rw [show max (left a b p) (-(left a b p)) = left a b p by omega]
      · rw [show max (left a b p) (-(left a b p)) = -(left a b p) by omega, Int.neg_mul_neg]
    · rw [if_neg c, if_neg c, if_neg (fun q => c ((wq_lt h h0).1 q))]
theorem wq_zero (a b : Pt) : wq 0 a b = 0 := by unfold wq; simp
theorem farthest_eq {l : List Pt} {i j : Nat} (h : at_ l i ≠ at_ l j) : rfF (at_ l i) (at_ l j) l 0 (0, 0) = (wv l (prf l i j), (prf l i j).far) := by
  have := rfF_eq h l 0 ⟨0, 0, 0, 0⟩ (Int.le_refl _)
  rw [wq_zero] at this
  exact this
theorem okP_ne {l : List Pt} {i j : Nat} (h : okP l i j = true) : at_ l i ≠ at_ l j := (okP_iff.1 h).1
/-- One row of pairs, and all rows, with the best proof till there. -/
def rowB (l : List Pt) (i j : Nat) (s : Option Prf) : Option Prf := (rowP l i j).foldl (bet l) s
def allB (l : List Pt) (i : Nat) (s : Option Prf) : Option Prf := (allP l i).foldl (bet l) s
theorem rowB_end {l : List Pt} {i j : Nat} (h : l.length ≤ j) (s : Option Prf) : rowB l i j s = s := by
  unfold rowB; rw [rowP, if_neg (by omega)]; rfl
theorem rowB_step {l : List Pt} {i j : Nat} (h : j < l.length) (s : Option Prf) : rowB l i j s = rowB l i (j + 1) (if okP l i j then bet l s (prf l i j) else s) := by
  unfold rowB; rw [rowP, if_pos h]; split <;> rfl
theorem allB_end {l : List Pt} {i : Nat} (h : l.length ≤ i) (s : Option Prf) : allB l i s = s := by
  unfold allB; rw [allP, if_neg (by omega)]; rfl
theorem allB_step {l : List Pt} {i : Nat} (h : i < l.length) (s : Option Prf) : allB l i s = allB l (i + 1) (rowB l i (i + 1) s) := by
  unfold allB rowB; rw [allP, if_pos h, List.foldl_append]
theorem least_all (l : List Pt) : least l = allB l 0 none := rfl
/-- All points are equal. -/
def same (l : List Pt) : Bool := l.all fun p => decide (p = at_ l 0)
theorem same_iff {l : List Pt} : same l = true ↔ ∀ a ∈ l, ∀ b ∈ l, a = b := by
  unfold same
  rw [List.all_eq_true]
  simp only [decide_eq_true_eq]
  constructor
  · intro h a ha b hb; rw [h a ha, h b hb]
  · intro h a ha
    have : 0 < l.length := List.length_pos_of_mem ha
    exact h a ha _ (at_mem this)
theorem least_same {l : List Pt} : least l = none ↔ same l = true := by
  rw [same_iff]
  exact ⟨fun h => all_same (least_none h), same_none⟩
/-- Verify: what the program asks is what the reference asks. -/
theorem verify_eq {l : List Pt} {i j f : Nat} (hi : okP l i j = true) (q : Rat) (hq : wv l (prf l i j) = q) :
    (wq (left (at_ l i) (at_ l j) (at_ l f)) (at_ l i) (at_ l j) = q ↔ max (left (at_ l i) (at_ l j) (at_ l f)) (-(left (at_ l i) (at_ l j) (at_ l f))) = (prf l i j).area) := by
  have hne := okP_ne hi
  have A := (prf_area l i j).1
  rw [← hq]
  show wq _ _ _ = wq (prf l i j).area _ _ ↔ _
  have l1 := wq_lt (n := (prf l i j).area) (m := left (at_ l i) (at_ l j) (at_ l f)) hne A
  have mx : wq (left (at_ l i) (at_ l j) (at_ l f)) (at_ l i) (at_ l j) = wq (max (left (at_ l i) (at_ l j) (at_ l f)) (-(left (at_ l i) (at_ l j) (at_ l f)))) (at_ l i) (at_ l j) := by
    unfold wq; congr 1
    rcases Int.le_total 0 (left (at_ l i) (at_ l j) (at_ l f)) with d | d
    · rw [show max (left (at_ l i) (at_ l j) (at_ l f)) (-(left (at_ l i) (at_ l j) (at_ l f))) = left (at_ l i) (at_ l j) (at_ l f) by omega]
    · rw [show max (left (at_ l i) (at_ l j) (at_ l f)) (-(left (at_ l i) (at_ l j) (at_ l f))) = -(left (at_ l i) (at_ l j) (at_ l f)) by omega, Int.neg_mul_neg]
  constructor
  · intro h
    have c1 : ¬ (prf l i j).area < max (left (at_ l i) (at_ l j) (at_ l f)) (-(left (at_ l i) (at_ l j) (at_ l f))) := fun c => by
      have := l1.2 c
      rw [h] at this; exact absurd this Rat.lt_irrefl
    have l2 := wq_lt (n := max (left (at_ l i) (at_ l j) (at_ l f)) (-(left (at_ l i) (at_ l j) (at_ l f)))) (m := (prf l i j).area) hne (by omega)
    have c2 : ¬ max (left (at_ l i) (at_ l j) (at_ l f)) (-(left (at_ l i) (at_ l j) (at_ l f))) < max (prf l i j).area (-(prf l i j).area) := fun c => by
      have := l2.2 c
      rw [← mx, h] at this; exact absurd this Rat.lt_irrefl
    omega
  · intro h; rw [mx, h]; rfl
end St
/- STRAIGHTNESS: the farthest points; points within the range. Plain. -/
namespace St

/-- A pair of the greatest distance, while the pairs are looked at. -/
def farS (l : List Pt) (i j : Nat) (s : Int × Nat × Nat) : Int × Nat × Nat := if s.1 < far (at_ l i) (at_ l j) then (far (at_ l i) (at_ l j), i, j) else s
def fRow (l : List Pt) (i j : Nat) (s : Int × Nat × Nat) : Int × Nat × Nat := if j < l.length then fRow l i (j + 1) (farS l i j s) else s
termination_by l.length - j
def fAll (l : List Pt) (i : Nat) (s : Int × Nat × Nat) : Int × Nat × Nat := if i < l.length then fAll l (i + 1) (fRow l i (i + 1) s) else s
termination_by l.length - i
theorem fRow_step {l : List Pt} {i j : Nat} (h : j < l.length) (s : Int × Nat × Nat) : fRow l i j s = fRow l i (j + 1) (farS l i j s) := by rw [fRow, if_pos h]
theorem fRow_end {l : List Pt} {i j : Nat} (h : ¬ j < l.length) (s : Int × Nat × Nat) : fRow l i j s = s := by rw [fRow, if_neg h]
theorem fAll_step {l : List Pt} {i : Nat} (h : i < l.length) (s : Int × Nat × Nat) : fAll l i s = fAll l (i + 1) (fRow l i (i + 1) s) := by rw [fAll, if_pos h]
theorem fAll_end {l : List Pt} {i : Nat} (h : ¬ i < l.length) (s : Int × Nat × Nat) : fAll l i s = s := by rw [fAll, if_neg h]
def farL (l : List Pt) : Int × Nat × Nat := fAll l 0 (-1, 0, 0)
def okF (l : List Pt) (s : Int × Nat × Nat) : Prop := s = (-1, 0, 0) ∨ s.2.1 < s.2.2 ∧ s.2.2 < l.length ∧ s.1 = far (at_ l s.2.1) (at_ l s.2.2)
theorem farS_ok {l : List Pt} {i j : Nat} (hij : i < j) (hj : j < l.length) {s : Int × Nat × Nat} (h : okF l s) : okF l (farS l i j s) ∧ s.1 ≤ (farS l i j s).1 ∧ far (at_ l i) (at_ l j) ≤ (farS l i j s).1 := by
  unfold farS
  split
  · exact ⟨.inr ⟨hij, hj, rfl⟩, by omega, Int.le_refl _⟩
  · exact ⟨h, Int.le_refl _, by omega⟩
theorem fRow_spec (l : List Pt) (i j : Nat) (s : Int × Nat × Nat) (hij : i < j) (h : okF l s) : okF l (fRow l i j s) ∧ s.1 ≤ (fRow l i j s).1 ∧ ∀ k, j ≤ k → k < l.length → far (at_ l i) (at_ l k) ≤ (fRow l i j s).1 := by
  by_cases hj : j < l.length
  · obtain ⟨h1, h2, h3⟩ := farS_ok hij hj h
    obtain ⟨i1, i2, i3⟩ := fRow_spec l i (j + 1) (farS l i j s) (by omega) h1
    rw [fRow_step hj]
    refine ⟨i1, by omega, fun k hk hl => ?_⟩
    by_cases e : k = j
    · subst e; omega
    · exact i3 k (by omega) hl
  · rw [fRow_end hj]
    exact ⟨h, Int.le_refl _, fun k hk hl => by omega⟩
termination_by l.length - j
theorem fAll_spec (l : List Pt) (i : Nat) (s : Int × Nat × Nat) (h : okF l s) : okF l (fAll l i s) ∧ s.1 ≤ (fAll l i s).1 ∧ ∀ a k, i ≤ a → a < k → k < l.length → far (at_ l a) (at_ l k) ≤ (fAll l i s).1 := by
  by_cases hi : i < l.length
  · obtain ⟨h1, h2, h3⟩ := fRow_spec l i (i + 1) s (by omega) h
    obtain ⟨i1, i2, i3⟩ := fAll_spec l (i + 1) (fRow l i (i + 1) s) h1
    rw [fAll_step hi]
    refine ⟨i1, by omega, fun a k ha hak hl => ?_⟩
    by_cases e : a = i
    · subst e; have := h3 k (by omega) hl; omega
    · exact i3 a k (by omega) hak hl
  · rw [fAll_end hi]
    exact ⟨h, Int.le_refl _, fun a k ha hak hl => by omega⟩
termination_by l.length - i
theorem farL_pair {l : List Pt} (h : same l = false) : (farL l).2.1 < (farL l).2.2 ∧ (farL l).2.2 < l.length ∧ at_ l (farL l).2.1 ≠ at_ l (farL l).2.2 := by
  obtain ⟨h1, -, h3⟩ := fAll_spec l 0 (-1, 0, 0) (.inl rfl)
  have hne : ∃ a k, a < k ∧ k < l.length ∧ at_ l a ≠ at_ l k := by
    apply Classical.byContradiction
    intro hno
    have : same l = true := same_iff.2 fun a ha b hb => by
      obtain ⟨i, hi, rfl⟩ := mem_at ha
      obtain ⟨k, hk, rfl⟩ := mem_at hb
      apply Classical.byContradiction
      intro hd
      rcases Nat.lt_trichotomy i k with q | q | q
      · exact hno ⟨i, k, q, hk, hd⟩
      · subst q; exact hd rfl
      · exact hno ⟨k, i, q, hi, fun e => hd e.symm⟩
    rw [h] at this; cases this
  obtain ⟨a, k, hak, hk, hd⟩ := hne
  have hp := far_pos hd
  have hle := h3 a k (Nat.zero_le _) hak hk
  change okF l (farL l) at h1
  change _ ≤ (farL l).1 at hle
  rcases h1 with e | ⟨q1, q2, q3⟩
  · rw [e] at hle; simp only at hle; omega
  · refine ⟨q1, q2, fun e => ?_⟩
    rw [e, far_self] at q3; omega
/-- A point in its range. -/
def InP (p : Pt) : Prop := -100000 ≤ p.x ∧ p.x ≤ 100000 ∧ -100000 ≤ p.y ∧ p.y ≤ 100000
instance (p : Pt) : Decidable (InP p) := by unfold InP; infer_instance
def inB (p : Pt) : Bool := decide (InP p)
theorem inB_iff {p : Pt} : inB p = true ↔ InP p := by unfold inB; simp
def chkP (l : List Pt) : Int := if 64 < l.length then 5 else if l.all inB = true then 0 else 2
def givP (l : List Pt) : Int := if chkP l = 0 then (if l.length = 0 then 13 else 0) else chkP l
theorem chkP_in {l : List Pt} (h : chkP l = 0) : l.length ≤ 64 ∧ ∀ p ∈ l, InP p := by
  unfold chkP at h
  split at h
  · cases h
  · split at h
    · rename_i h1 h2
      exact ⟨by omega, fun p hp => inB_iff.1 (List.all_eq_true.1 h2 p hp)⟩
    · cases h
theorem givP_in {l : List Pt} (h : givP l = 0) : 0 < l.length ∧ l.length ≤ 64 ∧ ∀ p ∈ l, InP p := by
  unfold givP at h
  split at h
  · rename_i h1
    split at h
    · cases h
    · have := chkP_in h1; exact ⟨by omega, this.1, this.2⟩
  · rename_i h1; exact absurd h h1
theorem at_in {l : List Pt} (h : ∀ p ∈ l, InP p) {i : Nat} (hi : i < l.length) : InP (at_ l i) := h _ (at_mem hi)
theorem mul_bd {x y : Int} {k m : Nat} (hx : -(k : Int) ≤ x ∧ x ≤ k) (hy : -(m : Int) ≤ y ∧ y ≤ m) : -((k * m : Nat) : Int) ≤ x * y ∧ x * y ≤ ((k * m : Nat) : Int) := by
  have h1 : x.natAbs ≤ k := by omega
  have h2 : y.natAbs ≤ m := by omega
  have h3 : (x * y).natAbs ≤ k * m := by rw [Int.natAbs_mul]; exact Nat.mul_le_mul h1 h2
  omega
theorem left_bd {a b p : Pt} (ha : InP a) (hb : InP b) (hp : InP p) : (-40000000000 ≤ (b.x - a.x) * (p.y - a.y) ∧ (b.x - a.x) * (p.y - a.y) ≤ 40000000000) ∧
    (-40000000000 ≤ (b.y - a.y) * (p.x - a.x) ∧ (b.y - a.y) * (p.x - a.x) ≤ 40000000000) ∧ -80000000000 ≤ left a b p ∧ left a b p ≤ 80000000000 := by
  obtain ⟨a1, a2, a3, a4⟩ := ha
  obtain ⟨b1, b2, b3, b4⟩ := hb
  obtain ⟨p1, p2, p3, p4⟩ := hp
  have h1 := mul_bd (x := b.x - a.x) (y := p.y - a.y) (k := 200000) (m := 200000) (by omega) (by omega)
  have h2 := mul_bd (x := b.y - a.y) (y := p.x - a.x) (k := 200000) (m := 200000) (by omega) (by omega)
  refine ⟨by omega, by omega, ?_⟩
  unfold left; omega
theorem far_bd {a b : Pt} (ha : InP a) (hb : InP b) : (0 ≤ (b.x - a.x) * (b.x - a.x) ∧ (b.x - a.x) * (b.x - a.x) ≤ 40000000000) ∧ (0 ≤ (b.y - a.y) * (b.y - a.y) ∧ (b.y - a.y) * (b.y - a.y) ≤ 40000000000) ∧ 0 ≤ far a b ∧ far a b ≤ 80000000000 := by
  obtain ⟨a1, a2, a3, a4⟩ := ha
  obtain ⟨b1, b2, b3, b4⟩ := hb
  have h1 := mul_bd (x := b.x - a.x) (y := b.x - a.x) (k := 200000) (m := 200000) (by omega) (by omega)
  have h2 := mul_bd (x := b.y - a.y) (y := b.y - a.y) (k := 200000) (m := 200000) (by omega) (by omega)
  have s1 := sq_nonneg (b.x - a.x)
  have s2 := sq_nonneg (b.y - a.y)
  refine ⟨by omega, by omega, ?_⟩
  unfold far; omega
end St
/- STRAIGHTNESS: the chapter's examples, reckoned. Plain. -/
namespace St
abbrev tri3 : List Pt := [⟨0, 0⟩, ⟨4, 0⟩, ⟨0, 3⟩]
abbrev flat3 : List Pt := [⟨0, 0⟩, ⟨10, 1⟩, ⟨20, 0⟩]
theorem tri3_all : allP tri3 0 = [prf tri3 0 1, prf tri3 0 2, prf tri3 1 2] := by
  rw [allP, if_pos (by decide), rowP, if_pos (by decide), if_pos (by decide), rowP, if_pos (by decide), if_pos (by decide), rowP, if_neg (by decide),
    allP, if_pos (by decide), rowP, if_pos (by decide), if_pos (by decide), rowP, if_neg (by decide), allP, if_pos (by decide), rowP, if_neg (by decide), allP, if_neg (by decide)]
  rfl
theorem flat3_all : allP flat3 0 = [prf flat3 0 1, prf flat3 0 2, prf flat3 1 2] := by
  rw [allP, if_pos (by decide), rowP, if_pos (by decide), if_pos (by decide), rowP, if_pos (by decide), if_pos (by decide), rowP, if_neg (by decide),
    allP, if_pos (by decide), rowP, if_pos (by decide), if_pos (by decide), rowP, if_neg (by decide), allP, if_pos (by decide), rowP, if_neg (by decide), allP, if_neg (by decide)]
  rfl
theorem tri3_least : least tri3 = some ⟨1, 2, 12, 0⟩ := by unfold least; rw [tri3_all]; decide +kernel
theorem flat3_least : least flat3 = some ⟨0, 2, 20, 1⟩ := by unfold least; rw [flat3_all]; decide +kernel
theorem tri3_wid : wid tri3 = Rat.divInt 144 25 := by unfold wid; rw [tri3_least]; decide +kernel
theorem flat3_wid : wid flat3 = 1 := by unfold wid; rw [flat3_least]; decide +kernel
theorem tri3_acr : acr tri3 ⟨0, 0⟩ ⟨1, 0⟩ = 3 := by decide
theorem flat3_rej : rej flat3 0 = some [0, 1, 2] := by
  have h : levels flat3.length 3 (flat3.length - 2) = [[0, 1, 2]] := by decide
  have hc : chosen flat3 [0, 1, 2] = flat3 := by decide
  unfold rej firstW
  rw [h, List.find?_cons, hc]
  unfold keeps
  rw [flat3_wid]
  decide +kernel
end St
/- STRAIGHTNESS: the choices of each size, one after the other. Plain. -/
namespace St

def rejK (l : List Pt) (t : Int) (k : Nat) : Option (List Nat) := firstW l t (levels l.length k (l.length + 1 - k))
theorem rejK_end {l : List Pt} {t : Int} {k : Nat} (h : l.length < k) : rejK l t k = none := by
  unfold rejK; rw [show l.length + 1 - k = 0 by omega]; rfl
theorem rejK_step {l : List Pt} {t : Int} {k : Nat} (h : k ≤ l.length) : rejK l t k = (firstW l t (lst l.length k)).or (rejK l t (k + 1)) := by
  unfold rejK
  rw [show l.length + 1 - k = (l.length + 1 - (k + 1)) + 1 by omega]
  unfold firstW
  simp only [levels, List.find?_append]
theorem rejK_three (l : List Pt) (t : Int) : rejK l t 3 = rej l t := by unfold rejK rej; rw [show l.length + 1 - 3 = l.length - 2 by omega]
theorem firstW_small {l : List Pt} {t : Int} {n k : Nat} (h : k ≤ 2) : firstW l t (lst n k) = none := by
  unfold firstW
  rw [List.find?_eq_none]
  intro x hx
  rw [keeps_zero (wid_two (by rw [chosen_len, ((mem_lst _ _ _).1 hx).1]; exact h))]
  simp
theorem rejK_two (l : List Pt) (t : Int) : rejK l t 2 = rejK l t 3 := by
  by_cases h : 2 ≤ l.length
  · rw [rejK_step h, firstW_small (Nat.le_refl _)]; rfl
  · rw [rejK_end (by omega), rejK_end (by omega)]
theorem rejK_one (l : List Pt) (t : Int) : rejK l t 1 = rej l t := by
  rw [← rejK_three, ← rejK_two]
  by_cases h : 1 ≤ l.length
  · rw [rejK_step h, firstW_small (by decide)]; rfl
  · rw [rejK_end (by omega), rejK_end (by omega)]
theorem firstW_nil (l : List Pt) (t : Int) : firstW l t [] = none := rfl
theorem firstW_keep {l : List Pt} {t : Int} {x : List Nat} {xs : List (List Nat)} (h : keeps (chosen l x) t = true) : firstW l t (x :: xs) = firstW l t xs := by
  unfold firstW; rw [List.find?_cons, h]; rfl
theorem firstW_found {l : List Pt} {t : Int} {x : List Nat} {xs : List (List Nat)} (h : keeps (chosen l x) t = false) : firstW l t (x :: xs) = some x := by
  unfold firstW; rw [List.find?_cons, h]; rfl
theorem firstW_app (l : List Pt) (t : Int) (a b : List (List Nat)) : firstW l t (a ++ b) = (firstW l t a).or (firstW l t b) := by unfold firstW; rw [List.find?_append]
theorem lst_mem {n k : Nat} {x : List Nat} (h : x ∈ lst n k) : x.length = k ∧ ∀ i ∈ x, i < n := ⟨((mem_lst n k x).1 h).1, ((mem_lst n k x).1 h).2.2⟩
end St
