/- STRAIGHTNESS: the least width lies along an edge: plain laws. -/
import Derived.RowKit
namespace St

/-- A point, or a vector. -/
structure Pt where
  x : Int
  y : Int
  deriving DecidableEq
def crs (a b : Pt) : Int := a.x * b.y - a.y * b.x
def dot (a b : Pt) : Int := a.x * b.x + a.y * b.y
def sub (a b : Pt) : Pt := ⟨a.x - b.x, a.y - b.y⟩
/-- Twice the area of a triangle. -/
def left (a b p : Pt) : Int := (b.x - a.x) * (p.y - a.y) - (b.y - a.y) * (p.x - a.x)
/-- The squared distance. -/
def far (a b : Pt) : Int := (b.x - a.x) * (b.x - a.x) + (b.y - a.y) * (b.y - a.y)
theorem three (v w z n : Pt) : crs v w * dot n z = crs v z * dot n w + crs z w * dot n v := by
  unfold crs dot; grind
theorem prod_pos {a b : Int} (ha : 0 ≤ a) (hb : 0 ≤ b) : 0 ≤ a * b := Int.mul_nonneg ha hb
theorem nonneg_of_mul {a b : Int} (hb : 0 < b) (h : 0 ≤ a * b) : 0 ≤ a := by
  rcases Int.lt_or_le a 0 with q | q
  · have := Int.mul_neg_of_neg_of_pos q hb; omega
  · exact q
/-- Of vectors in an open half of the plane one is outermost. -/
theorem outer (n : Pt) : ∀ (V : List Pt), V ≠ [] → (∀ v ∈ V, 0 < dot n v) → ∃ v ∈ V, ∀ w ∈ V, 0 ≤ crs v w
  | [], h, _ => absurd rfl h
  | [v], _, _ => ⟨v, by simp, fun w hw => by
      obtain rfl : w = v := by simpa using hw
      unfold crs; have := Int.mul_comm w.x w.y; omega⟩
  | v :: u :: V, _, hp => by
    obtain ⟨z, hz, hzw⟩ := outer n (u :: V) (by simp) (fun w hw => hp w (List.mem_cons_of_mem _ hw))
    rcases Int.lt_or_le (crs z v) 0 with q | q
    · refine ⟨v, by simp, fun w hw => ?_⟩
      rcases List.mem_cons.1 hw with rfl | hw
      · unfold crs; have := Int.mul_comm w.x w.y; omega
      · have h1 := three v w z n
        have hz0 := hp z (List.mem_cons_of_mem _ hz)
        have hw0 := hp w (List.mem_cons_of_mem _ hw)
        have hv0 := hp v (by simp)
        have e : crs v z = - crs z v := by unfold crs; grind
        have h2 : 0 ≤ crs v z * dot n w := prod_pos (by omega) (by omega)
        have h3 : 0 ≤ crs z w * dot n v := prod_pos (hzw w hw) (by omega)
        exact nonneg_of_mul hz0 (by omega)
    · refine ⟨z, List.mem_cons_of_mem _ hz, fun w hw => ?_⟩
      rcases List.mem_cons.1 hw with rfl | hw
      · exact q
      · exact hzw w hw
theorem sq_lt {x y : Int} (hx : 0 ≤ x) (h : y * y < x * x) : y < x := by
  rcases Int.lt_or_le y x with q | q
  · exact q
  · have := Int.mul_le_mul q q hx (by omega); omega
/-- One of two edges is as good as any direction between them. -/
theorem mix {a b R1 R2 R N V1 V2 D C : Int} (ha : 0 ≤ a) (hb : 0 ≤ b) (h1 : 0 ≤ R1) (h2 : 0 ≤ R2) (hN : 0 ≤ N) (hV1 : 0 ≤ V1) (hV2 : 0 ≤ V2)
    (hR : D * R = a * R1 + b * R2) (hD : D * D * N = a * a * V1 + b * b * V2 + 2 * (a * b * C)) (hC : C * C ≤ V1 * V2) (h0 : 0 < a ∨ 0 < b) :
    R1 * R1 * N ≤ R * R * V1 ∨ R2 * R2 * N ≤ R * R * V2 := by
  rcases Int.lt_or_le (R * R * V1) (R1 * R1 * N) with q1 | q1
  rotate_left
  · exact .inl q1
  rcases Int.lt_or_le (R * R * V2) (R2 * R2 * N) with q2 | q2
  rotate_left
  · exact .inr q2
  exfalso
  have e1 : D * R * (D * R) * N = a * a * (R1 * R1 * N) + b * b * (R2 * R2 * N) + 2 * (a * b * (R1 * R2 * N)) := by rw [hR]; grind
  have e2 : D * R * (D * R) * N = a * a * (R * R * V1) + b * b * (R * R * V2) + 2 * (a * b * (R * R * C)) := by
    have : D * R * (D * R) * N = R * R * (D * D * N) := by grind
    rw [this, hD]; grind
  have hRR : 0 ≤ R * R := by
    rcases Int.le_total 0 R with q | q
    · exact Int.mul_nonneg q q
    · exact Int.mul_nonneg_of_nonpos_of_nonpos q q
  have n1 : 0 ≤ R * R * V1 := Int.mul_nonneg hRR hV1
  have n2 : 0 ≤ R * R * V2 := Int.mul_nonneg hRR hV2
  have c1 : R * R * C < R1 * R2 * N := by
    apply sq_lt (Int.mul_nonneg (Int.mul_nonneg h1 h2) hN)
    have t1 : R * R * C * (R * R * C) ≤ R * R * V1 * (R * R * V2) := by
      have e : R * R * C * (R * R * C) = R * R * (R * R) * (C * C) := by grind
      have e' : R * R * V1 * (R * R * V2) = R * R * (R * R) * (V1 * V2) := by grind
      rw [e, e']
      exact Int.mul_le_mul_of_nonneg_left hC (Int.mul_nonneg hRR hRR)
    have t2 : R * R * V1 * (R * R * V2) < R1 * R1 * N * (R2 * R2 * N) := by
      have p2 : 0 < R1 * R1 * N := by omega
      have s1 := Int.mul_le_mul_of_nonneg_right (Int.le_of_lt q1) n2
      have s2 := Int.mul_lt_mul_of_pos_left q2 p2
      omega
    have t3 : R1 * R1 * N * (R2 * R2 * N) = R1 * R2 * N * (R1 * R2 * N) := by grind
    omega
  have c2 := Int.mul_le_mul_of_nonneg_left (Int.le_of_lt c1) (Int.mul_nonneg ha hb)
  have c3 := Int.mul_le_mul_of_nonneg_left (Int.le_of_lt q1) (Int.mul_nonneg ha ha)
  have c4 := Int.mul_le_mul_of_nonneg_left (Int.le_of_lt q2) (Int.mul_nonneg hb hb)
  rcases h0 with h0 | h0
  · have c5 := Int.mul_lt_mul_of_pos_left q1 (Int.mul_pos h0 h0)
    omega
  · have c5 := Int.mul_lt_mul_of_pos_left q2 (Int.mul_pos h0 h0)
    omega
end St
/- STRAIGHTNESS: of all directions, one along two points has the least width. -/
namespace St

theorem dot_self_nonneg (v : Pt) : 0 ≤ dot v v := by
  unfold dot
  have h : ∀ x : Int, 0 ≤ x * x := fun x => by
    rcases Int.le_total 0 x with q | q
    · exact Int.mul_nonneg q q
    · exact Int.mul_nonneg_of_nonpos_of_nonpos q q
  have := h v.x; have := h v.y; omega
theorem sq_nonneg (x : Int) : 0 ≤ x * x := by
  rcases Int.le_total 0 x with q | q
  · exact Int.mul_nonneg q q
  · exact Int.mul_nonneg_of_nonpos_of_nonpos q q
theorem cauchy (v w : Pt) : dot v w * dot v w ≤ dot v v * dot w w := by
  have : dot v v * dot w w = dot v w * dot v w + crs v w * crs v w := by unfold dot crs; grind
  have := sq_nonneg (crs v w)
  omega
/-- The normal of a direction: 'dot (nor d) x = crs d x'. -/
def nor (d : Pt) : Pt := ⟨- d.y, d.x⟩
theorem dot_nor (d x : Pt) : dot (nor d) x = crs d x := by unfold dot nor crs; grind
/-- A greatest one. -/
theorem top (f : Pt → Int) : ∀ l : List Pt, l ≠ [] → ∃ p ∈ l, ∀ x ∈ l, f x ≤ f p
  | [], h => absurd rfl h
  | [p], _ => ⟨p, by simp, fun x hx => by obtain rfl : x = p := by simpa using hx
                                          exact Int.le_refl _⟩
  | p :: u :: l, _ => by
    obtain ⟨z, hz, h⟩ := top f (u :: l) (by simp)
    rcases Int.le_total (f z) (f p) with q | q
    · refine ⟨p, by simp, fun x hx => ?_⟩
      rcases List.mem_cons.1 hx with rfl | hx
      · exact Int.le_refl _
      · exact Int.le_trans (h x hx) q
    · refine ⟨z, List.mem_cons_of_mem _ hz, fun x hx => ?_⟩
      rcases List.mem_cons.1 hx with rfl | hx
      · exact q
      · exact h x hx
theorem left_crs (a b p : Pt) : left a b p = crs (sub b a) (sub p a) := rfl
theorem left_h (a b p : Pt) : left a b p = crs (sub b a) p - crs (sub b a) a := by unfold left crs sub; grind
theorem far_dot (a b : Pt) : far a b = dot (sub b a) (sub b a) := rfl
theorem crs_sub (d p q : Pt) : crs d (sub p q) = crs d p - crs d q := by unfold crs sub; grind
/-- All points lie on one side. -/
def one (a b : Pt) (l : List Pt) : Prop := (∀ x ∈ l, 0 ≤ left a b x) ∨ (∀ x ∈ l, left a b x ≤ 0)
/-- An edge whose width is at most R, over the direction d. -/
def good (l : List Pt) (d : Pt) (R : Int) (a b : Pt) : Prop := a ≠ b ∧ one a b l ∧ ∀ x ∈ l, left a b x * left a b x * dot d d ≤ R * R * far a b
theorem abs_sq {u W : Int} (h0 : 0 ≤ W) (h1 : u ≤ W) (h2 : -W ≤ u) : u * u ≤ W * W := by
  rcases Int.le_total 0 u with q | q
  · exact Int.mul_le_mul h1 h1 q h0
  · have := Int.mul_le_mul (show -u ≤ W by omega) (show -u ≤ W by omega) (by omega) h0
    rw [Int.neg_mul_neg] at this; exact this
theorem good_swap {l : List Pt} {d : Pt} {R : Int} {a b : Pt} (h : good l d R a b) : good l d R b a := by
  obtain ⟨h1, h2, h3⟩ := h
  have e : ∀ x, left b a x = - left a b x := fun x => by unfold left; grind
  have ef : far b a = far a b := by unfold far; grind
  refine ⟨Ne.symm h1, ?_, fun x hx => by rw [e, ef, Int.neg_mul_neg]; exact h3 x hx⟩
  rcases h2 with h2 | h2
  · exact .inr fun x hx => by have := h2 x hx; rw [e]; omega
  · exact .inl fun x hx => by have := h2 x hx; rw [e]; omega
/-- An edge at the greatest point or the least one. -/
theorem edge_good {l : List Pt} {d p q v : Pt} {R : Int} (hv : ∃ a ∈ l, ∃ b ∈ l, a ≠ b ∧ v = sub b a ∧ (a = q ∨ b = p)) (hp : p ∈ l) (hq : q ∈ l)
    (sg : (∀ x ∈ l, 0 ≤ crs v (sub p x) ∧ 0 ≤ crs v (sub x q)) ∨ (∀ x ∈ l, crs v (sub p x) ≤ 0 ∧ crs v (sub x q) ≤ 0))
    (hw : crs v (sub p q) * crs v (sub p q) * dot d d ≤ R * R * dot v v) : ∃ a ∈ l, ∃ b ∈ l, good l d R a b := by
  obtain ⟨a, ha, b, hb, hab, rfl, hx⟩ := hv
  refine ⟨a, ha, b, hb, hab, ?_, fun x hx' => ?_⟩
  · have same : crs (sub b a) b = crs (sub b a) a := by unfold crs sub; grind
    rcases sg with sg | sg
    · rcases hx with rfl | rfl
      · refine .inl fun x hx => ?_
        have := (sg x hx).2
        rw [left_crs]; exact this
      · refine .inr fun x hx => ?_
        have := (sg x hx).1
        rw [crs_sub] at this
        rw [left_h]; omega
    · rcases hx with rfl | rfl
      · refine .inr fun x hx => ?_
        have := (sg x hx).2
        rw [left_crs]; exact this
      · refine .inl fun x hx => ?_
        have := (sg x hx).1
        rw [crs_sub] at this
        rw [left_h]; omega
  · have same : crs (sub b a) b = crs (sub b a) a := by unfold crs sub; grind
    have key : left a b x * left a b x ≤ crs (sub b a) (sub p q) * crs (sub b a) (sub p q) := by
      have l1 := left_h a b x
      rw [crs_sub]
      rcases sg with sg | sg
      · have s1 := sg x hx'
        have s2 := sg a ha
        have s3 := sg b hb
        simp only [crs_sub] at s1 s2 s3
        apply abs_sq <;> rcases hx with rfl | rfl <;> omega
      · have s1 := sg x hx'
        have s2 := sg a ha
        have s3 := sg b hb
        simp only [crs_sub] at s1 s2 s3
        have e : (crs (sub b a) p - crs (sub b a) q) * (crs (sub b a) p - crs (sub b a) q) = (crs (sub b a) q - crs (sub b a) p) * (crs (sub b a) q - crs (sub b a) p) := by grind
        rw [e]
        apply abs_sq <;> rcases hx with rfl | rfl <;> omega
    rw [far_dot]
    exact Int.le_trans (Int.mul_le_mul_of_nonneg_right key (dot_self_nonneg d)) hw
/-- THE LEAST WIDTH IS FOUND ALONG TWO OF THE POINTS, which are on one side. -/
theorem edge_le {l : List Pt} {d : Pt} {R : Int} (hd : d ≠ ⟨0, 0⟩) (hne : ∃ a ∈ l, ∃ b ∈ l, a ≠ b) (hR : ∀ x ∈ l, ∀ y ∈ l, crs d x - crs d y ≤ R) : ∃ a ∈ l, ∃ b ∈ l, good l d R a b := by
  obtain ⟨a0, ha0, b0, hb0, hab0⟩ := hne
  have hl : l ≠ [] := by rintro rfl; cases ha0
  obtain ⟨p, hp, hpx⟩ := top (fun x => crs d x) l hl
  obtain ⟨q, hq, hqx⟩ := top (fun x => - crs d x) l hl
  have hqx' : ∀ x ∈ l, crs d q ≤ crs d x := fun x hx => by have := hqx x hx; omega
  have hR0 : 0 ≤ crs d p - crs d q := by have := hpx q hq; omega
  have hRR : crs d p - crs d q ≤ R := hR p hp q hq
  have hRs : (crs d p - crs d q) * (crs d p - crs d q) ≤ R * R := Int.mul_le_mul hRR hRR hR0 (by omega)
  -- the vectors along the edges
  let V : List Pt := (l.map (fun x => sub p x) ++ l.map (fun x => sub x q)).filter (fun v => decide (v ≠ ⟨0, 0⟩))
  have memV : ∀ v, v ∈ V ↔ ((∃ x ∈ l, sub p x = v) ∨ (∃ x ∈ l, sub x q = v)) ∧ v ≠ ⟨0, 0⟩ := fun v => by
    simp only [V, List.mem_filter, List.mem_append, List.mem_map, decide_eq_true_eq]
  have sub_ne : ∀ {a b : Pt}, sub a b ≠ ⟨0, 0⟩ → a ≠ b := fun {a b} h e => h (by subst e; unfold sub; simp)
  have edgeV : ∀ v ∈ V, ∃ a ∈ l, ∃ b ∈ l, a ≠ b ∧ v = sub b a ∧ (a = q ∨ b = p) := fun v hv => by
    obtain ⟨h1, h2⟩ := (memV v).1 hv
    rcases h1 with ⟨x, hx, rfl⟩ | ⟨x, hx, rfl⟩
    · exact ⟨x, hx, p, hp, Ne.symm (sub_ne h2), rfl, .inr rfl⟩
    · exact ⟨q, hq, x, hx, Ne.symm (sub_ne h2), rfl, .inl rfl⟩
  have nonV : ∀ v ∈ V, 0 ≤ dot (nor d) v := fun v hv => by
    rw [dot_nor]
    rcases ((memV v).1 hv).1 with ⟨x, hx, rfl⟩ | ⟨x, hx, rfl⟩
    · rw [crs_sub]; have := hpx x hx; omega
    · rw [crs_sub]; have := hqx' x hx; omega
  have zero : ∀ x : Pt, crs x ⟨0, 0⟩ = 0 := fun x => by unfold crs; simp
  have allV : ∀ (v : Pt), (∀ w ∈ V, 0 ≤ crs v w) → ∀ x ∈ l, 0 ≤ crs v (sub p x) ∧ 0 ≤ crs v (sub x q) := fun v h x hx => by
    constructor
    · by_cases e : sub p x = ⟨0, 0⟩
      · rw [e, zero]; exact Int.le_refl _
      · exact h _ ((memV _).2 ⟨.inl ⟨x, hx, rfl⟩, e⟩)
    · by_cases e : sub x q = ⟨0, 0⟩
      · rw [e, zero]; exact Int.le_refl _
      · exact h _ ((memV _).2 ⟨.inr ⟨x, hx, rfl⟩, e⟩)
  have allV' : ∀ (v : Pt), (∀ w ∈ V, crs v w ≤ 0) → ∀ x ∈ l, crs v (sub p x) ≤ 0 ∧ crs v (sub x q) ≤ 0 := fun v h x hx => by
    constructor
    · by_cases e : sub p x = ⟨0, 0⟩
      · rw [e, zero]; exact Int.le_refl _
      · exact h _ ((memV _).2 ⟨.inl ⟨x, hx, rfl⟩, e⟩)
    · by_cases e : sub x q = ⟨0, 0⟩
      · rw [e, zero]; exact Int.le_refl _
      · exact h _ ((memV _).2 ⟨.inr ⟨x, hx, rfl⟩, e⟩)
  have hVne : V ≠ [] := fun e => by
    have h0 : ∀ x ∈ l, sub p x = ⟨0, 0⟩ := fun x hx => Decidable.byContradiction fun q0 => by
      have := (memV _).2 ⟨.inl ⟨x, hx, rfl⟩, q0⟩
      rw [e] at this; cases this
    have eqp : ∀ x ∈ l, x = p := fun x hx => by
      have := h0 x hx
      unfold sub at this
      injection this with h1 h2
      cases x; cases p; simp only [Pt.mk.injEq]; simp only at h1 h2; omega
    exact hab0 ((eqp a0 ha0).trans (eqp b0 hb0).symm)
  have hNd : 0 ≤ dot d d := dot_self_nonneg d
  have fin : ∀ v ∈ V, ((∀ w ∈ V, 0 ≤ crs v w) ∨ (∀ w ∈ V, crs v w ≤ 0)) → crs v (sub p q) * crs v (sub p q) * dot d d ≤ (crs d p - crs d q) * (crs d p - crs d q) * dot v v → ∃ a ∈ l, ∃ b ∈ l, good l d R a b := fun v hv hs hw => by
    refine edge_good (edgeV v hv) hp hq ?_ (Int.le_trans hw (Int.mul_le_mul_of_nonneg_right hRs (dot_self_nonneg v)))
    rcases hs with hs | hs
    · exact .inl (allV v hs)
    · exact .inr (allV' v hs)
  by_cases h0 : ∃ v ∈ V, dot (nor d) v = 0
  · -- an edge along d
    obtain ⟨v, hv, hv0⟩ := h0
    rw [dot_nor] at hv0
    have hvn := ((memV v).1 hv).2
    -- v = d up to a factor: crs v w has one sign on V
    have hpar : ∀ w : Pt, crs v w * dot d d = dot v d * crs d w := fun w => by
      have : crs v w * dot d d = dot v d * crs d w - crs d v * dot d w := by unfold crs dot; grind
      rw [this, hv0]; simp
    have hdd : 0 < dot d d := by
      rcases Int.lt_or_eq_of_le hNd with h | h
      · exact h
      · exfalso
        apply hd
        have h1 := sq_nonneg d.x
        have h2 := sq_nonneg d.y
        unfold dot at h
        have e1 : d.x * d.x = 0 := by omega
        have e2 : d.y * d.y = 0 := by omega
        cases d
        simp only [Pt.mk.injEq]
        exact ⟨(Int.mul_eq_zero.1 e1).elim id id, (Int.mul_eq_zero.1 e2).elim id id⟩
    refine fin v hv ?_ ?_
    · rcases Int.le_total 0 (dot v d) with s | s
      · refine .inl fun w hw => nonneg_of_mul hdd ?_
        rw [hpar]; exact Int.mul_nonneg s (by have := nonV w hw; rwa [dot_nor] at this)
      · refine .inr fun w hw => ?_
        have : 0 ≤ (- crs v w) * dot d d := by
          rw [Int.neg_mul, hpar, ← Int.neg_mul]; exact Int.mul_nonneg (by omega) (by have := nonV w hw; rwa [dot_nor] at this)
        have := nonneg_of_mul hdd this
        omega
    · have h1 := hpar (sub p q)
      have h2 : dot v d * dot v d = dot v v * dot d d := by
        have : dot v v * dot d d = dot v d * dot v d + crs d v * crs d v := by unfold dot crs; grind
        rw [this, hv0]; simp
      rw [crs_sub d] at h1
      have h3 : (crs v (sub p q) * crs v (sub p q) * dot d d) * dot d d = ((crs d p - crs d q) * (crs d p - crs d q) * dot v v) * dot d d := by
        have : (crs v (sub p q) * crs v (sub p q) * dot d d) * dot d d = (crs v (sub p q) * dot d d) * (crs v (sub p q) * dot d d) := by grind
        rw [this, h1]
        have : dot v d * (crs d p - crs d q) * (dot v d * (crs d p - crs d q)) = (crs d p - crs d q) * (crs d p - crs d q) * (dot v d * dot v d) := by grind
        rw [this, h2]; grind
      exact Int.le_of_eq (Int.eq_of_mul_eq_mul_right (by omega) h3)
  · have posV : ∀ v ∈ V, 0 < dot (nor d) v := fun v hv => by
      have := nonV v hv
      rcases Int.lt_or_eq_of_le this with h | h
      · exact h
      · exact absurd ⟨v, hv, h.symm⟩ h0
    obtain ⟨v1, hv1, hw1⟩ := outer (nor d) V hVne posV
    -- the other outermost one: mirrored
    let mir : Pt → Pt := fun v => ⟨- v.x, v.y⟩
    have mcrs : ∀ v w, crs (mir v) (mir w) = - crs v w := fun v w => by simp only [mir, crs]; grind
    have mdot : ∀ v w, dot (mir v) (mir w) = dot v w := fun v w => by simp only [mir, dot]; grind
    obtain ⟨u, hu, hw2⟩ := outer (mir (nor d)) (V.map mir) (by simpa using hVne) (fun v hv => by
      obtain ⟨w, hw, rfl⟩ := List.mem_map.1 hv
      rw [mdot]; exact posV w hw)
    obtain ⟨v2, hv2, rfl⟩ := List.mem_map.1 hu
    have hw2' : ∀ w ∈ V, crs v2 w ≤ 0 := fun w hw => by
      have := hw2 (mir w) (List.mem_map.2 ⟨w, hw, rfl⟩)
      rw [mcrs] at this; omega
    have s1 := allV v1 hw1 q hq
    have s2 := allV' v2 hw2' q hq
    have r1 : 0 ≤ crs v1 (sub p q) := s1.1
    have r2 : 0 ≤ - crs v2 (sub p q) := by have := s2.1; omega
    have m := mix (a := dot (nor d) v2) (b := dot (nor d) v1) (R1 := crs v1 (sub p q)) (R2 := - crs v2 (sub p q)) (R := crs d p - crs d q) (N := dot d d) (V1 := dot v1 v1) (V2 := dot v2 v2) (D := crs v1 v2) (C := - dot v1 v2)
      (Int.le_of_lt (posV v2 hv2)) (Int.le_of_lt (posV v1 hv1)) r1 r2 hNd (dot_self_nonneg v1) (dot_self_nonneg v2)
      (by simp only [crs, dot, nor, sub]; grind) (by simp only [crs, dot, nor]; grind) (by rw [Int.neg_mul_neg]; exact cauchy v1 v2) (.inl (posV v2 hv2))
    rcases m with m | m
    · exact fin v1 hv1 (.inl hw1) m
    · rw [Int.neg_mul_neg] at m
      exact fin v2 hv2 (.inr hw2') m
end St
/- STRAIGHTNESS: supporting pairs, and the least of them: plain laws. -/
namespace St

def at_ (l : List Pt) (i : Nat) : Pt := l.getD i ⟨0, 0⟩
theorem at_get {l : List Pt} {i : Nat} (h : i < l.length) : at_ l i = l[i] := by unfold at_; rw [List.getD_eq_getElem?_getD, List.getElem?_eq_getElem h]; rfl
theorem at_mem {l : List Pt} {i : Nat} (h : i < l.length) : at_ l i ∈ l := by rw [at_get h]; exact List.getElem_mem h
theorem mem_at {l : List Pt} {p : Pt} (h : p ∈ l) : ∃ i, i < l.length ∧ at_ l i = p := by
  obtain ⟨i, hi, rfl⟩ := List.getElem_of_mem h
  exact ⟨i, hi, at_get hi⟩
/-- What is known of a pair while the points are looked at. -/
structure Sp where
  low : Int
  high : Int
  area : Int
  far : Nat
def supS (a b p : Pt) (k : Nat) (s : Sp) : Sp :=
  ⟨min s.low (left a b p), max s.high (left a b p), if s.area < max (left a b p) (-(left a b p)) then max (left a b p) (-(left a b p)) else s.area, if s.area < max (left a b p) (-(left a b p)) then k else s.far⟩
def supF (a b : Pt) : List Pt → Nat → Sp → Sp
  | [], _, s => s
  | p :: t, k, s => supF a b t (k + 1) (supS a b p k s)
theorem supF_low (a b : Pt) : ∀ (l : List Pt) (k : Nat) (s : Sp), s.low ≤ 0 → (supF a b l k s).low ≤ 0 ∧ ((supF a b l k s).low = 0 ↔ s.low = 0 ∧ ∀ x ∈ l, 0 ≤ left a b x)
  | [], k, s, h => ⟨h, by simp [supF]⟩
  | p :: t, k, s, h => by
    have ih := supF_low a b t (k + 1) (supS a b p k s) (by show min s.low (left a b p) ≤ 0; omega)
    refine ⟨ih.1, ?_⟩
    show (supF a b t (k + 1) (supS a b p k s)).low = 0 ↔ _
    rw [ih.2]
    show min s.low (left a b p) = 0 ∧ _ ↔ _
    simp only [List.mem_cons, forall_eq_or_imp]
    constructor
    · rintro ⟨q, r⟩; exact ⟨by omega, by omega, r⟩
    · rintro ⟨q, q2, r⟩; exact ⟨by omega, r⟩
theorem supF_high (a b : Pt) : ∀ (l : List Pt) (k : Nat) (s : Sp), 0 ≤ s.high → 0 ≤ (supF a b l k s).high ∧ ((supF a b l k s).high = 0 ↔ s.high = 0 ∧ ∀ x ∈ l, left a b x ≤ 0)
  | [], k, s, h => ⟨h, by simp [supF]⟩
  | p :: t, k, s, h => by
    have ih := supF_high a b t (k + 1) (supS a b p k s) (by show 0 ≤ max s.high (left a b p); omega)
    refine ⟨ih.1, ?_⟩
    show (supF a b t (k + 1) (supS a b p k s)).high = 0 ↔ _
    rw [ih.2]
    show max s.high (left a b p) = 0 ∧ _ ↔ _
    simp only [List.mem_cons, forall_eq_or_imp]
    constructor
    · rintro ⟨q, r⟩; exact ⟨by omega, by omega, r⟩
    · rintro ⟨q, q2, r⟩; exact ⟨by omega, r⟩
theorem supF_area (a b : Pt) : ∀ (l : List Pt) (k : Nat) (s : Sp), s.area ≤ (supF a b l k s).area ∧ (∀ x ∈ l, left a b x ≤ (supF a b l k s).area ∧ -(left a b x) ≤ (supF a b l k s).area) ∧
    ((supF a b l k s).area = s.area ∧ (supF a b l k s).far = s.far ∨ ∃ m, m < l.length ∧ (supF a b l k s).far = k + m ∧ (supF a b l k s).area = max (left a b (at_ l m)) (-(left a b (at_ l m))))
  | [], k, s => ⟨Int.le_refl _, by simp, .inl ⟨rfl, rfl⟩⟩
  | p :: t, k, s => by
    obtain ⟨i1, i2, i3⟩ := supF_area a b t (k + 1) (supS a b p k s)
    have e : (supS a b p k s).area = if s.area < max (left a b p) (-(left a b p)) then max (left a b p) (-(left a b p)) else s.area := rfl
    have ef : (supS a b p k s).far = if s.area < max (left a b p) (-(left a b p)) then k else s.far := rfl
    have h1 : s.area ≤ (supS a b p k s).area ∧ left a b p ≤ (supS a b p k s).area ∧ -(left a b p) ≤ (supS a b p k s).area := by
      rw [e]; split <;> omega
    refine ⟨Int.le_trans h1.1 i1, fun x hx => ?_, ?_⟩
    · rcases List.mem_cons.1 hx with rfl | hx
      · exact ⟨Int.le_trans h1.2.1 i1, Int.le_trans h1.2.2 i1⟩
      · exact i2 x hx
    · show (supF a b t (k + 1) (supS a b p k s)).area = _ ∧ (supF a b t (k + 1) (supS a b p k s)).far = _ ∨ ∃ m, _ ∧ (supF a b t (k + 1) (supS a b p k s)).far = _ ∧ (supF a b t (k + 1) (supS a b p k s)).area = _
      rcases i3 with ⟨j1, j2⟩ | ⟨m, hm, j1, j2⟩
      · rw [j1, j2, e, ef]
        by_cases q : s.area < max (left a b p) (-(left a b p))
        · rw [if_pos q, if_pos q]; exact .inr ⟨0, by simp, rfl, rfl⟩
        · rw [if_neg q, if_neg q]; exact .inl ⟨rfl, rfl⟩
      · refine .inr ⟨m + 1, by simpa using hm, by rw [j1]; omega, ?_⟩
        rw [j2]; rfl
def sp (l : List Pt) (i j : Nat) : Sp := supF (at_ l i) (at_ l j) l 0 ⟨0, 0, 0, 0⟩
/-- A proof: a pair, the greatest area, the first point that has it. -/
structure Prf where
  i : Nat
  j : Nat
  area : Int
  far : Nat
  deriving DecidableEq
def okP (l : List Pt) (i j : Nat) : Bool := decide (at_ l i ≠ at_ l j) && (decide ((sp l i j).low = 0) || decide ((sp l i j).high = 0))
def prf (l : List Pt) (i j : Nat) : Prf := ⟨i, j, (sp l i j).area, (sp l i j).far⟩
theorem okP_iff {l : List Pt} {i j : Nat} : okP l i j = true ↔ at_ l i ≠ at_ l j ∧ one (at_ l i) (at_ l j) l := by
  unfold okP one sp
  have h1 := (supF_low (at_ l i) (at_ l j) l 0 ⟨0, 0, 0, 0⟩ (Int.le_refl _)).2
  have h2 := (supF_high (at_ l i) (at_ l j) l 0 ⟨0, 0, 0, 0⟩ (Int.le_refl _)).2
  simp only [Bool.and_eq_true, Bool.or_eq_true, decide_eq_true_eq, h1, h2, true_and]
theorem prf_area (l : List Pt) (i j : Nat) : 0 ≤ (prf l i j).area ∧ (∀ x ∈ l, left (at_ l i) (at_ l j) x ≤ (prf l i j).area ∧ -(left (at_ l i) (at_ l j) x) ≤ (prf l i j).area) ∧
    ((prf l i j).area = 0 ∧ (prf l i j).far = 0 ∨ (prf l i j).far < l.length ∧ (prf l i j).area = max (left (at_ l i) (at_ l j) (at_ l (prf l i j).far)) (-(left (at_ l i) (at_ l j) (at_ l (prf l i j).far)))) := by
  obtain ⟨h1, h2, h3⟩ := supF_area (at_ l i) (at_ l j) l 0 ⟨0, 0, 0, 0⟩
  refine ⟨h1, h2, ?_⟩
  rcases h3 with h3 | ⟨m, hm, e1, e2⟩
  · exact .inl h3
  · have e : (prf l i j).far = m := by show (sp l i j).far = m; unfold sp; omega
    rw [e]; exact .inr ⟨hm, e2⟩
/-- The proofs of all supporting pairs, in order. -/
def rowP (l : List Pt) (i j : Nat) : List Prf := if j < l.length then (if okP l i j then prf l i j :: rowP l i (j + 1) else rowP l i (j + 1)) else []
termination_by l.length - j
def allP (l : List Pt) (i : Nat) : List Prf := if i < l.length then rowP l i (i + 1) ++ allP l (i + 1) else []
termination_by l.length - i
theorem mem_rowP (l : List Pt) (i j : Nat) (x : Prf) : x ∈ rowP l i j ↔ ∃ k, j ≤ k ∧ k < l.length ∧ okP l i k = true ∧ x = prf l i k := by
  rw [rowP]
  by_cases h : j < l.length
  · have ih := mem_rowP l i (j + 1) x
    rw [if_pos h]
    by_cases o : okP l i j = true
    · rw [if_pos o, List.mem_cons, ih]
      constructor
      · rintro (rfl | ⟨k, h1, h2, h3, h4⟩)
        · exact ⟨j, Nat.le_refl _, h, o, rfl⟩
        · exact ⟨k, by omega, h2, h3, h4⟩
      · rintro ⟨k, h1, h2, h3, h4⟩
        by_cases e : k = j
        · subst e; exact .inl h4
        · exact .inr ⟨k, by omega, h2, h3, h4⟩
    · rw [if_neg o, ih]
      constructor
      · rintro ⟨k, h1, h2, h3, h4⟩; exact ⟨k, by omega, h2, h3, h4⟩
      · rintro ⟨k, h1, h2, h3, h4⟩
        by_cases e : k = j
        · subst e; exact absurd h3 o
        · exact ⟨k, by omega, h2, h3, h4⟩
  · rw [if_neg h]
    constructor
    · intro h; cases h
    · rintro ⟨k, h1, h2, -⟩; omega
termination_by l.length - j
theorem mem_allP (l : List Pt) (i : Nat) (x : Prf) : x ∈ allP l i ↔ ∃ a k, i ≤ a ∧ a < k ∧ k < l.length ∧ okP l a k = true ∧ x = prf l a k := by
  rw [allP]
  by_cases h : i < l.length
  · have ih := mem_allP l (i + 1) x
    rw [if_pos h, List.mem_append, mem_rowP, ih]
    constructor
    · rintro (⟨k, h1, h2, h3, h4⟩ | ⟨a, k, h0, h1, h2, h3, h4⟩)
      · exact ⟨i, k, Nat.le_refl _, by omega, h2, h3, h4⟩
      · exact ⟨a, k, by omega, h1, h2, h3, h4⟩
    · rintro ⟨a, k, h0, h1, h2, h3, h4⟩
      by_cases e : a = i
      · subst e; exact .inl ⟨k, by omega, h2, h3, h4⟩
      · exact .inr ⟨a, k, by omega, h1, h2, h3, h4⟩
  · rw [if_neg h]
    constructor
    · intro h; cases h
    · rintro ⟨a, k, h0, h1, h2, -⟩; omega
termination_by l.length - i
/-- The squared width over a pair. -/
def wq (n : Int) (a b : Pt) : Rat := Rat.divInt (n * n) (far a b)
def wv (l : List Pt) (x : Prf) : Rat := wq x.area (at_ l x.i) (at_ l x.j)
def bet (l : List Pt) (s : Option Prf) (x : Prf) : Option Prf := match s with
  | none => some x
  | some y => if wv l x < wv l y then some x else some y
def least (l : List Pt) : Option Prf := (allP l 0).foldl (bet l) none
theorem fold_some (l : List Pt) : ∀ (t : List Prf) (y : Prf), ∃ x, t.foldl (bet l) (some y) = some x ∧ (x = y ∨ x ∈ t) ∧ wv l x ≤ wv l y ∧ ∀ z ∈ t, wv l x ≤ wv l z
  | [], y => ⟨y, rfl, .inl rfl, Rat.le_refl, by simp⟩
  | u :: t, y => by
    rw [List.foldl_cons]
    by_cases h : wv l u < wv l y
    · obtain ⟨x, h1, h2, h3, h4⟩ := fold_some l t u
      refine ⟨x, by unfold bet at *; simp only [if_pos h]; exact h1, ?_, Rat.le_trans h3 (Rat.le_of_lt h), fun z hz => ?_⟩
      · rcases h2 with rfl | h2
        · exact .inr (by simp)
        · exact .inr (List.mem_cons_of_mem _ h2)
      · rcases List.mem_cons.1 hz with rfl | hz
        · exact h3
        · exact h4 z hz
    · obtain ⟨x, h1, h2, h3, h4⟩ := fold_some l t y
      refine ⟨x, by unfold bet at *; simp only [if_neg h]; exact h1, ?_, h3, fun z hz => ?_⟩
      · rcases h2 with rfl | h2
        · exact .inl rfl
        · exact .inr (List.mem_cons_of_mem _ h2)
      · rcases List.mem_cons.1 hz with rfl | hz
        · exact Rat.le_trans h3 (Rat.not_lt.1 h)
        · exact h4 z hz
theorem least_some {l : List Pt} {x : Prf} (h : least l = some x) : x ∈ allP l 0 ∧ ∀ z ∈ allP l 0, wv l x ≤ wv l z := by
  unfold least at h
  cases q : allP l 0 with
  | nil => rw [q] at h; cases h
  | cons y t =>
    rw [q, List.foldl_cons] at h
    obtain ⟨x', h1, h2, h3, h4⟩ := fold_some l t y
    rw [show bet l none y = some y from rfl, h1] at h
    cases h
    refine ⟨?_, fun z hz => ?_⟩
    · rcases h2 with rfl | h2
      · simp
      · exact List.mem_cons_of_mem _ h2
    · rcases List.mem_cons.1 hz with rfl | hz
      · exact h3
      · exact h4 z hz
/-- The squared width. -/
def wid (l : List Pt) : Rat := match least l with
  | none => 0
  | some x => wv l x
end St
/- STRAIGHTNESS: the least width is at most that across any direction, and is that across its pair: plain laws. -/
namespace St

theorem far_pos {a b : Pt} (h : a ≠ b) : 0 < far a b := by
  have h1 := sq_nonneg (b.x - a.x)
  have h2 := sq_nonneg (b.y - a.y)
  unfold far
  rcases Int.lt_or_eq_of_le (show 0 ≤ (b.x - a.x) * (b.x - a.x) + (b.y - a.y) * (b.y - a.y) by omega) with q | q
  · exact q
  · exfalso; apply h
    have e1 : (b.x - a.x) * (b.x - a.x) = 0 := by omega
    have e2 : (b.y - a.y) * (b.y - a.y) = 0 := by omega
    have e1 := (Int.mul_eq_zero.1 e1).elim id id
    have e2 := (Int.mul_eq_zero.1 e2).elim id id
    cases a; cases b; simp only [Pt.mk.injEq]; simp only at e1 e2; omega
theorem divInt_mul {n f : Int} (h : f ≠ 0) : Rat.divInt n f * (f : Rat) = (n : Rat) := by
  rw [Rat.divInt_eq_div]
  have hf : (f : Rat) ≠ 0 := fun q => h (by have := Rat.intCast_inj.1 (q.trans (Rat.intCast_zero).symm); exact this)
  exact Rat.div_mul_cancel hf
theorem wq_mul {n : Int} {a b : Pt} (h : a ≠ b) : wq n a b * (far a b : Rat) = ((n * n : Int) : Rat) := divInt_mul (by have := far_pos h; omega)
theorem rat_pos {f : Int} (h : 0 < f) : (0 : Rat) < (f : Rat) := by
  have := (Rat.intCast_lt_intCast (a := 0) (b := f)).2 h
  simpa using this
theorem le_of_mul_pos {a b f : Rat} (hf : 0 < f) (h : a * f ≤ b * f) : a ≤ b := by
  rcases (Rat.le_total (a := a) (b := b)) with q | q
  · exact q
  · have h0 : 0 ≤ (a - b) := by grind
    by_cases e : a = b
    · subst e; exact Rat.le_refl
    · have h1 : 0 < a - b := by grind
      have := Rat.mul_pos h1 hf
      grind
/-- The area of a proof is that of one of the points. -/
theorem prf_attained {l : List Pt} {i j : Nat} (hi : i < l.length) : ∃ x ∈ l, (prf l i j).area * (prf l i j).area = left (at_ l i) (at_ l j) x * left (at_ l i) (at_ l j) x := by
  obtain ⟨-, -, h⟩ := prf_area l i j
  rcases h with ⟨h, -⟩ | ⟨h1, h2⟩
  · refine ⟨at_ l i, at_mem hi, ?_⟩
    rw [h]; unfold left; grind
  · refine ⟨_, at_mem h1, ?_⟩
    rcases Int.le_total (left (at_ l i) (at_ l j) (at_ l (prf l i j).far)) 0 with q | q
    · rw [show (prf l i j).area = - left (at_ l i) (at_ l j) (at_ l (prf l i j).far) by omega, Int.neg_mul_neg]
    · rw [show (prf l i j).area = left (at_ l i) (at_ l j) (at_ l (prf l i j).far) by omega]
/-- THE WIDTH IS AT MOST THAT ACROSS ANY DIRECTION. -/
theorem wid_le {l : List Pt} {d : Pt} {R : Int} (hd : d ≠ ⟨0, 0⟩) (hR : ∀ x ∈ l, ∀ y ∈ l, crs d x - crs d y ≤ R) : wid l * ((dot d d : Int) : Rat) ≤ ((R * R : Int) : Rat) := by
  cases hw : least l with
  | none =>
    unfold wid; rw [hw]
    simp only
    have := sq_nonneg R
    have := Rat.intCast_le_intCast.2 this
    rw [Rat.zero_mul]; simpa using this
  | some z =>
    obtain ⟨hz, hm⟩ := least_some hw
    obtain ⟨i0, j0, -, hij0, hj0, hok0, -⟩ := (mem_allP l 0 z).1 hz
    have hne : ∃ a ∈ l, ∃ b ∈ l, a ≠ b := ⟨at_ l i0, at_mem (by omega), at_ l j0, at_mem hj0, (okP_iff.1 hok0).1⟩
    obtain ⟨a, ha, b, hb, hg⟩ := edge_le hd hne hR
    obtain ⟨i, hi, rfl⟩ := mem_at ha
    obtain ⟨j, hj, rfl⟩ := mem_at hb
    have key : ∀ i j, i < j → j < l.length → good l d R (at_ l i) (at_ l j) → wid l * ((dot d d : Int) : Rat) ≤ ((R * R : Int) : Rat) := fun i j h0 hj hg => by
      have hok : okP l i j = true := okP_iff.2 ⟨hg.1, hg.2.1⟩
      have h1 := hm _ ((mem_allP l 0 _).2 ⟨i, j, Nat.zero_le _, h0, hj, hok, rfl⟩)
      have e : wid l = wv l z := by unfold wid; rw [hw]
      rw [e]
      obtain ⟨x, hx, hxe⟩ := prf_attained (l := l) (i := i) (j := j) (by omega)
      have h3 := hg.2.2 x hx
      rw [← hxe] at h3
      have hf := far_pos hg.1
      have h4 := wq_mul (n := (prf l i j).area) hg.1
      have h5 : wv l (prf l i j) = wq (prf l i j).area (at_ l i) (at_ l j) := rfl
      rw [← h5] at h4
      have h6 : wv l (prf l i j) * ((dot d d : Int) : Rat) ≤ ((R * R : Int) : Rat) := by
        apply le_of_mul_pos (rat_pos hf)
        have := Rat.intCast_le_intCast.2 h3
        rw [Rat.intCast_mul ((prf l i j).area * (prf l i j).area), ← h4, Rat.intCast_mul (R * R)] at this
        grind
      have h7 : (0 : Rat) ≤ ((dot d d : Int) : Rat) := by
        have := Rat.intCast_le_intCast.2 (dot_self_nonneg d); simpa using this
      exact Rat.le_trans (Rat.mul_le_mul_of_nonneg_right h1 h7) h6
    have hij : i ≠ j := by rintro rfl; exact hg.1 rfl
    rcases Nat.lt_or_gt_of_ne hij with q | q
    · exact key i j q hj hg
    · exact key j i q hi (good_swap hg)
end St
/- STRAIGHTNESS: widths across directions; fewer points; points that are moved: plain laws. -/
namespace St

def loF (a b : Pt) : List Pt → Int → Int
  | [], n => n
  | p :: t, n => loF a b t (min n (left a b p))
def hiF (a b : Pt) : List Pt → Int → Int
  | [], n => n
  | p :: t, n => hiF a b t (max n (left a b p))
theorem loF_spec (a b : Pt) : ∀ (l : List Pt) (n : Int), loF a b l n ≤ n ∧ (∀ x ∈ l, loF a b l n ≤ left a b x) ∧ (loF a b l n = n ∨ ∃ x ∈ l, loF a b l n = left a b x)
  | [], n => ⟨Int.le_refl _, by simp, .inl rfl⟩
  | p :: t, n => by
    obtain ⟨h1, h2, h3⟩ := loF_spec a b t (min n (left a b p))
    have e : loF a b (p :: t) n = loF a b t (min n (left a b p)) := rfl
    rw [e]
    refine ⟨by omega, fun x hx => ?_, ?_⟩
    · rcases List.mem_cons.1 hx with rfl | hx
      · omega
      · exact h2 x hx
    · rcases h3 with h3 | ⟨x, hx, h3⟩
      · rcases Int.le_total n (left a b p) with q | q
        · exact .inl (by omega)
        · exact .inr ⟨p, by simp, by omega⟩
      · exact .inr ⟨x, List.mem_cons_of_mem _ hx, h3⟩
theorem hiF_spec (a b : Pt) : ∀ (l : List Pt) (n : Int), n ≤ hiF a b l n ∧ (∀ x ∈ l, left a b x ≤ hiF a b l n) ∧ (hiF a b l n = n ∨ ∃ x ∈ l, hiF a b l n = left a b x)
  | [], n => ⟨Int.le_refl _, by simp, .inl rfl⟩
  | p :: t, n => by
    obtain ⟨h1, h2, h3⟩ := hiF_spec a b t (max n (left a b p))
    have e : hiF a b (p :: t) n = hiF a b t (max n (left a b p)) := rfl
    rw [e]
    refine ⟨by omega, fun x hx => ?_, ?_⟩
    · rcases List.mem_cons.1 hx with rfl | hx
      · omega
      · exact h2 x hx
    · rcases h3 with h3 | ⟨x, hx, h3⟩
      · rcases Int.le_total n (left a b p) with q | q
        · exact .inr ⟨p, by simp, by omega⟩
        · exact .inl (by omega)
      · exact .inr ⟨x, List.mem_cons_of_mem _ hx, h3⟩
/-- How far the points reach across a direction. -/
def acr (l : List Pt) (a b : Pt) : Int := hiF a b l (left a b (at_ l 0)) - loF a b l (left a b (at_ l 0))
theorem acr_spec {l : List Pt} (a b : Pt) (hl : l ≠ []) : (∀ x ∈ l, ∀ y ∈ l, left a b x - left a b y ≤ acr l a b) ∧ ∃ x ∈ l, ∃ y ∈ l, acr l a b = left a b x - left a b y := by
  have h0 : at_ l 0 ∈ l := at_mem (List.length_pos_iff.2 hl)
  obtain ⟨-, h2, h3⟩ := loF_spec a b l (left a b (at_ l 0))
  obtain ⟨-, k2, k3⟩ := hiF_spec a b l (left a b (at_ l 0))
  unfold acr
  refine ⟨fun x hx y hy => by have := k2 x hx; have := h2 y hy; omega, ?_⟩
  obtain ⟨x, hx, ex⟩ : ∃ x ∈ l, hiF a b l (left a b (at_ l 0)) = left a b x := by
    rcases k3 with k3 | k3
    · exact ⟨_, h0, k3⟩
    · exact k3
  obtain ⟨y, hy, ey⟩ : ∃ x ∈ l, loF a b l (left a b (at_ l 0)) = left a b x := by
    rcases h3 with h3 | h3
    · exact ⟨_, h0, h3⟩
    · exact h3
  exact ⟨x, hx, y, hy, by rw [ex, ey]⟩
theorem left_diff (a b x y : Pt) : left a b x - left a b y = crs (sub b a) x - crs (sub b a) y := by rw [left_h, left_h]; omega
/-- Across a supporting pair the points reach as far as the area says. -/
theorem one_range {l : List Pt} {i j : Nat} (h : okP l i j = true) : ∀ x ∈ l, ∀ y ∈ l, left (at_ l i) (at_ l j) x - left (at_ l i) (at_ l j) y ≤ (prf l i j).area := by
  intro x hx y hy
  obtain ⟨-, h2, -⟩ := prf_area l i j
  have := h2 x hx
  have := h2 y hy
  rcases (okP_iff.1 h).2 with q | q
  · have := q y hy; omega
  · have := q x hx; omega
theorem left_self (a b : Pt) : left a b a = 0 := by unfold left; grind
theorem acr_pair {l : List Pt} {i j : Nat} (hi : i < l.length) (h : okP l i j = true) : acr l (at_ l i) (at_ l j) = (prf l i j).area := by
  have hl : l ≠ [] := by rintro rfl; simp at hi
  obtain ⟨h1, x, hx, y, hy, h2⟩ := acr_spec (at_ l i) (at_ l j) hl
  have r := one_range h x hx y hy
  rw [← h2] at r
  obtain ⟨p0, p1, p2⟩ := prf_area l i j
  have hi' := at_mem hi
  have z := left_self (at_ l i) (at_ l j)
  rcases p2 with ⟨e, -⟩ | ⟨hf, e⟩
  · have := h1 _ hi' _ hi'; omega
  · have hf' := at_mem hf
    have := h1 _ hf' _ hi'
    have := h1 _ hi' _ hf'
    omega
/-- THE WIDTH IS THAT ACROSS ITS PAIR. -/
theorem least_pair {l : List Pt} {z : Prf} (h : least l = some z) : z.i < z.j ∧ z.j < l.length ∧ at_ l z.i ≠ at_ l z.j ∧ okP l z.i z.j = true ∧ z = prf l z.i z.j ∧ acr l (at_ l z.i) (at_ l z.j) = z.area ∧ wid l = wq z.area (at_ l z.i) (at_ l z.j) := by
  obtain ⟨i, j, -, h1, h2, h3, rfl⟩ := (mem_allP l 0 z).1 (least_some h).1
  refine ⟨h1, h2, (okP_iff.1 h3).1, h3, rfl, acr_pair (by show i < l.length; omega) h3, ?_⟩
  unfold wid; rw [h]; rfl
end St
/- STRAIGHTNESS: points that are moved; triangles: plain laws. -/
namespace St

theorem at_map (T : Pt → Pt) {l : List Pt} {i : Nat} (h : i < l.length) : at_ (l.map T) i = T (at_ l i) := by
  rw [at_get (by simpa using h), at_get h, List.getElem_map]
end St
/- STRAIGHTNESS: lists of indices, and the first that is too wide: plain laws. -/
namespace St

/-- All ascending lists of indices below n that go on from b by m more, at least f. -/
def dfs (n : Nat) : Nat → List Nat → Nat → List (List Nat)
  | 0, b, _ => [b]
  | m + 1, b, f => (List.range' f (n - f)).flatMap fun i => dfs n m (b ++ [i]) (i + 1)
/-- What may follow a list. -/
def nxt (b : List Nat) : Nat := match b.getLast? with
  | none => 0
  | some i => i + 1
def ext (n : Nat) (b : List Nat) : List (List Nat) := (List.range' (nxt b) (n - nxt b)).map fun i => b ++ [i]
def lst (n : Nat) : Nat → List (List Nat)
  | 0 => [[]]
  | k + 1 => (lst n k).flatMap (ext n)
/-- The points of some indices. -/
def chosen (l : List Pt) (x : List Nat) : List Pt := x.map (at_ l)
/-- The width is at most a tolerance. -/
def keeps (l : List Pt) (t : Int) : Bool := decide (wid l ≤ ((t * t : Int) : Rat))
def firstW (l : List Pt) (t : Int) (xs : List (List Nat)) : Option (List Nat) := xs.find? fun x => !keeps (chosen l x) t
def levels (n : Nat) : Nat → Nat → List (List Nat)
  | _, 0 => []
  | k, m + 1 => lst n k ++ levels n (k + 1) m
/-- The first fewest points that are too wide. -/
def rej (l : List Pt) (t : Int) : Option (List Nat) := firstW l t (levels l.length 3 (l.length - 2))
end St
/- STRAIGHTNESS: what the reference computes: plain laws. -/
namespace St

/-- Whether points lie on the left, on the right. -/
def rsF (a b : Pt) : List Pt → Bool × Bool → Bool × Bool
  | [], s => s
  | p :: t, s => rsF a b t (s.1 || decide (0 < left a b p), s.2 || decide (left a b p < 0))
/-- The farthest point, by its squared distance. -/
def rfF (a b : Pt) : List Pt → Nat → Rat × Nat → Rat × Nat
  | [], _, s => s
  | p :: t, k, s => rfF a b t (k + 1) (if s.1 < wq (left a b p) a b then (wq (left a b p) a b, k) else s)
theorem okP_ne {l : List Pt} {i j : Nat} (h : okP l i j = true) : at_ l i ≠ at_ l j := (okP_iff.1 h).1
/-- One row of pairs, and all rows, with the best proof till there. -/
def rowB (l : List Pt) (i j : Nat) (s : Option Prf) : Option Prf := (rowP l i j).foldl (bet l) s
def allB (l : List Pt) (i : Nat) (s : Option Prf) : Option Prf := (allP l i).foldl (bet l) s
theorem rowB_end {l : List Pt} {i j : Nat} (h : l.length ≤ j) (s : Option Prf) : rowB l i j s = s := by
  unfold rowB; rw [rowP, if_neg (by omega)]; rfl
theorem rowB_step {l : List Pt} {i j : Nat} (h : j < l.length) (s : Option Prf) : rowB l i j s = rowB l i (j + 1) (if okP l i j then bet l s (prf l i j) else s) := by
  unfold rowB; rw [rowP, if_pos h]; split <;> rfl
theorem allB_end {l : List Pt} {i : Nat} (h : l.length ≤ i) (s : Option Prf) : allB l i s = s := by
  unfold allB; rw [allP, if_neg (by omega)]; rfl
theorem allB_step {l : List Pt} {i : Nat} (h : i < l.length) (s : Option Prf) : allB l i s = allB l (i + 1) (rowB l i (i + 1) s) := by
  unfold allB rowB; rw [allP, if_pos h, List.foldl_append]
/-- All points are equal. -/
def same (l : List Pt) : Bool := l.all fun p => decide (p = at_ l 0)
end St
/- STRAIGHTNESS: the farthest points; points within the range. Plain. -/
namespace St

/-- A pair of the greatest distance, while the pairs are looked at. -/
def farS (l : List Pt) (i j : Nat) (s : Int × Nat × Nat) : Int × Nat × Nat := if s.1 < far (at_ l i) (at_ l j) then (far (at_ l i) (at_ l j), i, j) else s
def fRow (l : List Pt) (i j : Nat) (s : Int × Nat × Nat) : Int × Nat × Nat := if j < l.length then fRow l i (j + 1) (farS l i j s) else s
termination_by l.length - j
def fAll (l : List Pt) (i : Nat) (s : Int × Nat × Nat) : Int × Nat × Nat := if i < l.length then fAll l (i + 1) (fRow l i (i + 1) s) else s
termination_by l.length - i
def farL (l : List Pt) : Int × Nat × Nat := fAll l 0 (-1, 0, 0)
def okF (l : List Pt) (s : Int × Nat × Nat) : Prop := s = (-1, 0, 0) ∨ s.2.1 < s.2.2 ∧ s.2.2 < l.length ∧ s.1 = far (at_ l s.2.1) (at_ l s.2.2)
/-- A point in its range. -/
def InP (p : Pt) : Prop := -100000 ≤ p.x ∧ p.x ≤ 100000 ∧ -100000 ≤ p.y ∧ p.y ≤ 100000
instance (p : Pt) : Decidable (InP p) := by unfold InP; infer_instance
def inB (p : Pt) : Bool := decide (InP p)
theorem inB_iff {p : Pt} : inB p = true ↔ InP p := by unfold inB; simp
def chkP (l : List Pt) : Int := if 64 < l.length then 5 else if l.all inB = true then 0 else 2
def givP (l : List Pt) : Int := if chkP l = 0 then (if l.length = 0 then 13 else 0) else chkP l
theorem chkP_in {l : List Pt} (h : chkP l = 0) : l.length ≤ 64 ∧ ∀ p ∈ l, InP p := by
  unfold chkP at h
  split at h
  · cases h
  · split at h
    · rename_i h1 h2
      exact ⟨by omega, fun p hp => inB_iff.1 (List.all_eq_true.1 h2 p hp)⟩
    · cases h
theorem givP_in {l : List Pt} (h : givP l = 0) : 0 < l.length ∧ l.length ≤ 64 ∧ ∀ p ∈ l, InP p := by
  unfold givP at h
  split at h
  · rename_i h1
    split at h
    · cases h
    · have := chkP_in h1; exact ⟨by omega, this.1, this.2⟩
  · rename_i h1; exact absurd h h1
theorem at_in {l : List Pt} (h : ∀ p ∈ l, InP p) {i : Nat} (hi : i < l.length) : InP (at_ l i) := h _ (at_mem hi)
theorem mul_bd {x y : Int} {k m : Nat} (hx : -(k : Int) ≤ x ∧ x ≤ k) (hy : -(m : Int) ≤ y ∧ y ≤ m) : -((k * m : Nat) : Int) ≤ x * y ∧ x * y ≤ ((k * m : Nat) : Int) := by
  have h1 : x.natAbs ≤ k := by omega
  have h2 : y.natAbs ≤ m := by omega
  have h3 : (x * y).natAbs ≤ k * m := by rw [Int.natAbs_mul]; exact Nat.mul_le_mul h1 h2
  omega
theorem left_bd {a b p : Pt} (ha : InP a) (hb : InP b) (hp : InP p) : (-40000000000 ≤ (b.x - a.x) * (p.y - a.y) ∧ (b.x - a.x) * (p.y - a.y) ≤ 40000000000) ∧
    (-40000000000 ≤ (b.y - a.y) * (p.x - a.x) ∧ (b.y - a.y) * (p.x - a.x) ≤ 40000000000) ∧ -80000000000 ≤ left a b p ∧ left a b p ≤ 80000000000 := by
  obtain ⟨a1, a2, a3, a4⟩ := ha
  obtain ⟨b1, b2, b3, b4⟩ := hb
  obtain ⟨p1, p2, p3, p4⟩ := hp
  have h1 := mul_bd (x := b.x - a.x) (y := p.y - a.y) (k := 200000) (m := 200000) (by omega) (by omega)
  have h2 := mul_bd (x := b.y - a.y) (y := p.x - a.x) (k := 200000) (m := 200000) (by omega) (by omega)
  refine ⟨by omega, by omega, ?_⟩
  unfold left; omega
theorem far_bd {a b : Pt} (ha : InP a) (hb : InP b) : (0 ≤ (b.x - a.x) * (b.x - a.x) ∧ (b.x - a.x) * (b.x - a.x) ≤ 40000000000) ∧ (0 ≤ (b.y - a.y) * (b.y - a.y) ∧ (b.y - a.y) * (b.y - a.y) ≤ 40000000000) ∧ 0 ≤ far a b ∧ far a b ≤ 80000000000 := by
  obtain ⟨a1, a2, a3, a4⟩ := ha
  obtain ⟨b1, b2, b3, b4⟩ := hb
  have h1 := mul_bd (x := b.x - a.x) (y := b.x - a.x) (k := 200000) (m := 200000) (by omega) (by omega)
  have h2 := mul_bd (x := b.y - a.y) (y := b.y - a.y) (k := 200000) (m := 200000) (by omega) (by omega)
  have s1 := sq_nonneg (b.x - a.x)
  have s2 := sq_nonneg (b.y - a.y)
  refine ⟨by omega, by omega, ?_⟩
  unfold far; omega
end St
/- STRAIGHTNESS: the chapter's examples, reckoned. Plain. -/
namespace St
abbrev tri3 : List Pt := [⟨0, 0⟩, ⟨4, 0⟩, ⟨0, 3⟩]
abbrev flat3 : List Pt := [⟨0, 0⟩, ⟨10, 1⟩, ⟨20, 0⟩]
end St
/- STRAIGHTNESS: the choices of each size, one after the other. Plain. -/
namespace St

def rejK (l : List Pt) (t : Int) (k : Nat) : Option (List Nat) := firstW l t (levels l.length k (l.length + 1 - k))
end St
