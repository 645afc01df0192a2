/- SQUARENESS: of all upright zones, one through two points has the least width: plain laws. -/
import Derived.Test.YtcdjhgkeehhaaaaGreatDoorNA
namespace Or
open St (sq_nonneg nonneg_of_mul prod_pos mix abs_sq)

/-- A point in space, or a vector. -/
structure P3 where
  x : Int
  y : Int
  z : Int
  deriving DecidableEq
def crs (a b : P3) : P3 := ⟨a.y * b.z - a.z * b.y, a.z * b.x - a.x * b.z, a.x * b.y - a.y * b.x⟩
def dot (a b : P3) : Int := a.x * b.x + a.y * b.y + a.z * b.z
def sub (a b : P3) : P3 := ⟨a.x - b.x, a.y - b.y, a.z - b.z⟩
/-- The height of w over the plane along d and v; the product of what is square to d. -/
def T (d v w : P3) : Int := dot (crs d v) w
def S (d v w : P3) : Int := dot (crs d v) (crs d w)
theorem T_sub (d v p q : P3) : T d v (sub p q) = T d v p - T d v q := by unfold T dot crs sub; grind
theorem T_swap (d v w : P3) : T d v w = - T d w v := by unfold T dot crs; grind
theorem T_self (d v : P3) : T d v v = 0 := by unfold T dot crs; grind
theorem three (d e v w z : P3) : T d v w * T d e z = T d v z * T d e w + T d z w * T d e v := by unfold T dot crs; grind
theorem S_nonneg (d v : P3) : 0 ≤ S d v v := by
  have h1 := sq_nonneg (crs d v).x
  have h2 := sq_nonneg (crs d v).y
  have h3 := sq_nonneg (crs d v).z
  unfold S dot; omega
theorem dot_nonneg (d : P3) : 0 ≤ dot d d := by
  have h1 := sq_nonneg d.x
  have h2 := sq_nonneg d.y
  have h3 := sq_nonneg d.z
  unfold dot; omega
theorem lagrange (d v w : P3) : S d v v * S d w w = S d v w * S d v w + dot d d * (T d v w * T d v w) := by
  have h : ∀ a b : P3, dot a a * dot b b = dot a b * dot a b + dot (crs a b) (crs a b) := fun a b => by unfold dot crs; grind
  have h2 : crs (crs d v) (crs d w) = ⟨T d v w * d.x, T d v w * d.y, T d v w * d.z⟩ := by unfold T dot crs; simp only [P3.mk.injEq]; refine ⟨by grind, by grind, by grind⟩
  unfold S
  rw [h, h2]
  generalize T d v w = t
  generalize dot (crs d v) (crs d w) = s
  unfold dot
  grind
theorem cauchy (d v w : P3) : S d v w * S d v w ≤ S d v v * S d w w := by
  have := lagrange d v w
  have := Int.mul_nonneg (dot_nonneg d) (sq_nonneg (T d v w))
  omega
theorem dot_pos {d : P3} (h : d ≠ ⟨0, 0, 0⟩) : 0 < dot d d := by
  have h1 := sq_nonneg d.x
  have h2 := sq_nonneg d.y
  have h3 := sq_nonneg d.z
  rcases Int.lt_or_eq_of_le (dot_nonneg d) with q | q
  · exact q
  · exfalso; apply h
    unfold dot at q
    have e1 : d.x * d.x = 0 := by omega
    have e2 : d.y * d.y = 0 := by omega
    have e3 : d.z * d.z = 0 := by omega
    cases d; simp only [P3.mk.injEq]
    exact ⟨(Int.mul_eq_zero.1 e1).elim id id, (Int.mul_eq_zero.1 e2).elim id id, (Int.mul_eq_zero.1 e3).elim id id⟩
/-- What is parallel to d has no height. -/
theorem null {d v : P3} (h : crs d v = ⟨0, 0, 0⟩) (w : P3) : T d v w = 0 ∧ T d w v = 0 := by
  have : T d v w = 0 := by unfold T; rw [h]; unfold dot; simp
  exact ⟨this, by rw [T_swap, this]; rfl⟩
theorem S_pos {d v : P3} (h : crs d v ≠ ⟨0, 0, 0⟩) : 0 < S d v v := dot_pos h
/-- Of vectors in an open half of the plane one is outermost. -/
theorem outer (d e : P3) : ∀ (V : List P3), V ≠ [] → (∀ v ∈ V, 0 < T d e v) → ∃ v ∈ V, ∀ w ∈ V, 0 ≤ T d v w
  | [], h, _ => absurd rfl h
  | [v], _, _ => ⟨v, by simp, fun w hw => by
      obtain rfl : w = v := by simpa using hw
      rw [T_self]; exact Int.le_refl _⟩
  | v :: u :: V, _, hp => by
    obtain ⟨z, hz, hzw⟩ := outer d e (u :: V) (by simp) (fun w hw => hp w (List.mem_cons_of_mem _ hw))
    rcases Int.lt_or_le (T d z v) 0 with q | q
    · refine ⟨v, by simp, fun w hw => ?_⟩
      rcases List.mem_cons.1 hw with rfl | hw
      · rw [T_self]; exact Int.le_refl _
      · have h1 := three d e v w z
        have hz0 := hp z (List.mem_cons_of_mem _ hz)
        have hw0 := hp w (List.mem_cons_of_mem _ hw)
        have hv0 := hp v (by simp)
        have e1 := T_swap d v z
        have h2 : 0 ≤ T d v z * T d e w := prod_pos (by omega) (by omega)
        have h3 : 0 ≤ T d z w * T d e v := prod_pos (hzw w hw) (by omega)
        exact nonneg_of_mul hz0 (by omega)
    · refine ⟨z, List.mem_cons_of_mem _ hz, fun w hw => ?_⟩
      rcases List.mem_cons.1 hw with rfl | hw
      · exact q
      · exact hzw w hw
/-- The other outermost one. -/
theorem outer' (d e : P3) : ∀ (V : List P3), V ≠ [] → (∀ v ∈ V, 0 < T d e v) → ∃ v ∈ V, ∀ w ∈ V, T d v w ≤ 0
  | [], h, _ => absurd rfl h
  | [v], _, _ => ⟨v, by simp, fun w hw => by
      obtain rfl : w = v := by simpa using hw
      rw [T_self]; exact Int.le_refl _⟩
  | v :: u :: V, _, hp => by
    obtain ⟨z, hz, hzw⟩ := outer' d e (u :: V) (by simp) (fun w hw => hp w (List.mem_cons_of_mem _ hw))
    rcases Int.lt_or_le 0 (T d z v) with q | q
    · refine ⟨v, by simp, fun w hw => ?_⟩
      rcases List.mem_cons.1 hw with rfl | hw
      · rw [T_self]; exact Int.le_refl _
      · have h1 := three d e v w z
        have hz0 := hp z (List.mem_cons_of_mem _ hz)
        have hw0 := hp w (List.mem_cons_of_mem _ hw)
        have hv0 := hp v (by simp)
        have e1 := T_swap d v z
        have h2 : 0 ≤ (- T d v z) * T d e w := prod_pos (by omega) (by omega)
        have h3 : 0 ≤ (- T d z w) * T d e v := prod_pos (by have := hzw w hw; omega) (by omega)
        rw [Int.neg_mul] at h2 h3
        have h4 : 0 ≤ (- T d v w) * T d e z := by rw [Int.neg_mul]; omega
        have := nonneg_of_mul hz0 h4
        omega
    · refine ⟨z, List.mem_cons_of_mem _ hz, fun w hw => ?_⟩
      rcases List.mem_cons.1 hw with rfl | hw
      · exact q
      · exact hzw w hw
/-- A direction as a mix of two. -/
theorem mixed (d e v w : P3) : T d v w * T d v w * S d e e = T d e w * T d e w * S d v v + T d e v * T d e v * S d w w + 2 * (T d e w * T d e v * (- S d v w)) := by
  have c : ∀ i : P3 → Int, (i = P3.x ∨ i = P3.y ∨ i = P3.z) → T d v w * i (crs d e) = T d e w * i (crs d v) - T d e v * i (crs d w) := fun i hi => by
    rcases hi with rfl | rfl | rfl <;> simp only [T, dot, crs] <;> grind
  have cx := c P3.x (.inl rfl)
  have cy := c P3.y (.inr (.inl rfl))
  have cz := c P3.z (.inr (.inr rfl))
  unfold S
  generalize crs d e = E at *
  generalize crs d v = F at *
  generalize crs d w = G at *
  generalize T d v w = D at *
  generalize T d e w = a at *
  generalize T d e v = b at *
  unfold dot
  have : D * D * (E.x * E.x + E.y * E.y + E.z * E.z) = (D * E.x) * (D * E.x) + (D * E.y) * (D * E.y) + (D * E.z) * (D * E.z) := by grind
  rw [this, cx, cy, cz]
  grind
end Or
/- SQUARENESS: of all upright zones, one through two points has the least width: plain laws. -/
namespace Or
open St (sq_nonneg nonneg_of_mul prod_pos mix abs_sq)

theorem comp (d e v w : P3) : T d v w * S d e e = T d e w * S d v e - T d e v * S d w e := by
  have c : ∀ i : P3 → Int, (i = P3.x ∨ i = P3.y ∨ i = P3.z) → T d v w * i (crs d e) = T d e w * i (crs d v) - T d e v * i (crs d w) := fun i hi => by
    rcases hi with rfl | rfl | rfl <;> simp only [T, dot, crs] <;> grind
  have cx := c P3.x (.inl rfl)
  have cy := c P3.y (.inr (.inl rfl))
  have cz := c P3.z (.inr (.inr rfl))
  unfold S
  generalize crs d e = E at *
  generalize crs d v = F at *
  generalize crs d w = G at *
  generalize T d v w = D at *
  generalize T d e w = a at *
  generalize T d e v = b at *
  unfold dot
  have : D * (E.x * E.x + E.y * E.y + E.z * E.z) = (D * E.x) * E.x + (D * E.y) * E.y + (D * E.z) * E.z := by grind
  rw [this, cx, cy, cz]
  grind
theorem top (f : P3 → Int) : ∀ l : List P3, l ≠ [] → ∃ p ∈ l, ∀ x ∈ l, f x ≤ f p
  | [], h => absurd rfl h
  | [p], _ => ⟨p, by simp, fun x hx => by obtain rfl : x = p := by simpa using hx
                                          exact Int.le_refl _⟩
  | p :: u :: l, _ => by
    obtain ⟨z, hz, h⟩ := top f (u :: l) (by simp)
    rcases Int.le_total (f z) (f p) with q | q
    · refine ⟨p, by simp, fun x hx => ?_⟩
      rcases List.mem_cons.1 hx with rfl | hx
      · exact Int.le_refl _
      · exact Int.le_trans (h x hx) q
    · refine ⟨z, List.mem_cons_of_mem _ hz, fun x hx => ?_⟩
      rcases List.mem_cons.1 hx with rfl | hx
      · exact q
      · exact h x hx
/-- The height of a point over the upright plane through two others. -/
def hgt (d a b x : P3) : Int := T d (sub b a) (sub x a)
def one (d a b : P3) (l : List P3) : Prop := (∀ x ∈ l, 0 ≤ hgt d a b x) ∨ (∀ x ∈ l, hgt d a b x ≤ 0)
def good (l : List P3) (d e : P3) (R : Int) (a b : P3) : Prop := crs d (sub b a) ≠ ⟨0, 0, 0⟩ ∧ one d a b l ∧ ∀ x ∈ l, hgt d a b x * hgt d a b x * S d e e ≤ R * R * S d (sub b a) (sub b a)
theorem hgt_T (d a b x : P3) : hgt d a b x = T d (sub b a) x - T d (sub b a) a := T_sub _ _ _ _
theorem hgt_swap (d a b x : P3) : hgt d b a x = - hgt d a b x := by unfold hgt T dot crs sub; grind
theorem S_swap (d a b : P3) : S d (sub a b) (sub a b) = S d (sub b a) (sub b a) := by unfold S dot crs sub; grind
theorem crs_swap {d a b : P3} (h : crs d (sub b a) ≠ ⟨0, 0, 0⟩) : crs d (sub a b) ≠ ⟨0, 0, 0⟩ := fun q => h (by
  unfold crs sub at *
  injection q with q1 q2 q3
  simp only [P3.mk.injEq]
  refine ⟨by grind, by grind, by grind⟩)
theorem good_swap {l : List P3} {d e : P3} {R : Int} {a b : P3} (h : good l d e R a b) : good l d e R b a := by
  obtain ⟨h1, h2, h3⟩ := h
  refine ⟨crs_swap h1, ?_, fun x hx => by rw [hgt_swap, S_swap, Int.neg_mul_neg]; exact h3 x hx⟩
  rcases h2 with h2 | h2
  · exact .inr fun x hx => by have := h2 x hx; rw [hgt_swap]; omega
  · exact .inl fun x hx => by have := h2 x hx; rw [hgt_swap]; omega
theorem ends_same (d a b : P3) : T d (sub b a) b = T d (sub b a) a := by unfold T dot crs sub; grind
theorem edge_good {l : List P3} {d e p q v : P3} {R : Int} (hv : ∃ a ∈ l, ∃ b ∈ l, crs d v ≠ ⟨0, 0, 0⟩ ∧ v = sub b a ∧ (a = q ∨ b = p))
    (sg : (∀ x ∈ l, 0 ≤ T d v (sub p x) ∧ 0 ≤ T d v (sub x q)) ∨ (∀ x ∈ l, T d v (sub p x) ≤ 0 ∧ T d v (sub x q) ≤ 0))
    (hw : T d v (sub p q) * T d v (sub p q) * S d e e ≤ R * R * S d v v) : ∃ a ∈ l, ∃ b ∈ l, good l d e R a b := by
  obtain ⟨a, ha, b, hb, hab, rfl, hx⟩ := hv
  have same := ends_same d a b
  refine ⟨a, ha, b, hb, hab, ?_, fun x hx' => ?_⟩
  · rcases sg with sg | sg
    · rcases hx with rfl | rfl
      · exact .inl fun x hx => (sg x hx).2
      · refine .inr fun x hx => ?_
        have := (sg x hx).1
        rw [T_sub] at this
        rw [hgt_T]; omega
    · rcases hx with rfl | rfl
      · exact .inr fun x hx => (sg x hx).2
      · refine .inl fun x hx => ?_
        have := (sg x hx).1
        rw [T_sub] at this
        rw [hgt_T]; omega
  · have key : hgt d a b x * hgt d a b x ≤ T d (sub b a) (sub p q) * T d (sub b a) (sub p q) := by
      have l1 := hgt_T d a b x
      rw [T_sub]
      rcases sg with sg | sg
      · have s1 := sg x hx'
        have s2 := sg a ha
        have s3 := sg b hb
        simp only [T_sub] at s1 s2 s3
        apply abs_sq <;> rcases hx with rfl | rfl <;> omega
      · have s1 := sg x hx'
        have s2 := sg a ha
        have s3 := sg b hb
        simp only [T_sub] at s1 s2 s3
        have e : (T d (sub b a) p - T d (sub b a) q) * (T d (sub b a) p - T d (sub b a) q) = (T d (sub b a) q - T d (sub b a) p) * (T d (sub b a) q - T d (sub b a) p) := by grind
        rw [e]
        apply abs_sq <;> rcases hx with rfl | rfl <;> omega
    exact Int.le_trans (Int.mul_le_mul_of_nonneg_right key (S_nonneg d e)) hw
/-- THE LEAST UPRIGHT ZONE IS FOUND THROUGH TWO OF THE POINTS, which are on one side. -/
theorem edge_le {l : List P3} {d e : P3} {R : Int} (he : crs d e ≠ ⟨0, 0, 0⟩) (hne : ∃ a ∈ l, ∃ b ∈ l, crs d (sub b a) ≠ ⟨0, 0, 0⟩) (hR : ∀ x ∈ l, ∀ y ∈ l, T d e x - T d e y ≤ R) : ∃ a ∈ l, ∃ b ∈ l, good l d e R a b := by
  obtain ⟨a0, ha0, b0, hb0, hab0⟩ := hne
  have hl : l ≠ [] := by rintro rfl; cases ha0
  obtain ⟨p, hp, hpx⟩ := top (fun x => T d e x) l hl
  obtain ⟨q, hq, hqx⟩ := top (fun x => - T d e x) l hl
  have hqx' : ∀ x ∈ l, T d e q ≤ T d e x := fun x hx => by have := hqx x hx; omega
  have hR0 : 0 ≤ T d e p - T d e q := by have := hpx q hq; omega
  have hRR : T d e p - T d e q ≤ R := hR p hp q hq
  have hRs : (T d e p - T d e q) * (T d e p - T d e q) ≤ R * R := Int.mul_le_mul hRR hRR hR0 (by omega)
  let V : List P3 := (l.map (fun x => sub p x) ++ l.map (fun x => sub x q)).filter (fun v => decide (crs d v ≠ ⟨0, 0, 0⟩))
  have memV : ∀ v, v ∈ V ↔ ((∃ x ∈ l, sub p x = v) ∨ (∃ x ∈ l, sub x q = v)) ∧ crs d v ≠ ⟨0, 0, 0⟩ := fun v => by
    simp only [V, List.mem_filter, List.mem_append, List.mem_map, decide_eq_true_eq]
  have edgeV : ∀ v ∈ V, ∃ a ∈ l, ∃ b ∈ l, crs d v ≠ ⟨0, 0, 0⟩ ∧ v = sub b a ∧ (a = q ∨ b = p) := fun v hv => by
    obtain ⟨h1, h2⟩ := (memV v).1 hv
    rcases h1 with ⟨x, hx, rfl⟩ | ⟨x, hx, rfl⟩
    · exact ⟨x, hx, p, hp, h2, rfl, .inr rfl⟩
    · exact ⟨q, hq, x, hx, h2, rfl, .inl rfl⟩
  have nonV : ∀ v ∈ V, 0 ≤ T d e v := fun v hv => by
    rcases ((memV v).1 hv).1 with ⟨x, hx, rfl⟩ | ⟨x, hx, rfl⟩
    · rw [T_sub]; have := hpx x hx; omega
    · rw [T_sub]; have := hqx' x hx; omega
  have allV : ∀ (v : P3), (∀ w ∈ V, 0 ≤ T d v w) → ∀ x ∈ l, 0 ≤ T d v (sub p x) ∧ 0 ≤ T d v (sub x q) := fun v h x hx => by
    constructor
    · by_cases c : crs d (sub p x) = ⟨0, 0, 0⟩
      · rw [(null c v).2]; exact Int.le_refl _
      · exact h _ ((memV _).2 ⟨.inl ⟨x, hx, rfl⟩, c⟩)
    · by_cases c : crs d (sub x q) = ⟨0, 0, 0⟩
      · rw [(null c v).2]; exact Int.le_refl _
      · exact h _ ((memV _).2 ⟨.inr ⟨x, hx, rfl⟩, c⟩)
  have allV' : ∀ (v : P3), (∀ w ∈ V, T d v w ≤ 0) → ∀ x ∈ l, T d v (sub p x) ≤ 0 ∧ T d v (sub x q) ≤ 0 := fun v h x hx => by
    constructor
    · by_cases c : crs d (sub p x) = ⟨0, 0, 0⟩
      · rw [(null c v).2]; exact Int.le_refl _
      · exact h _ ((memV _).2 ⟨.inl ⟨x, hx, rfl⟩, c⟩)
    · by_cases c : crs d (sub x q) = ⟨0, 0, 0⟩
      · rw [(null c v).2]; exact Int.le_refl _
      · exact h _ ((memV _).2 ⟨.inr ⟨x, hx, rfl⟩, c⟩)
  have hVne : V ≠ [] := fun c => by
    have h0 : ∀ x ∈ l, crs d (sub p x) = ⟨0, 0, 0⟩ := fun x hx => Decidable.byContradiction fun q0 => by
      have := (memV _).2 ⟨.inl ⟨x, hx, rfl⟩, q0⟩
      rw [c] at this; cases this
    have h1 := h0 a0 ha0
    have h2 := h0 b0 hb0
    apply hab0
    unfold crs sub at *
    injection h1 with h11 h12 h13
    injection h2 with h21 h22 h23
    simp only [P3.mk.injEq]
    refine ⟨by grind, by grind, by grind⟩
  have hNd : 0 ≤ S d e e := S_nonneg d e
  have fin : ∀ v ∈ V, ((∀ w ∈ V, 0 ≤ T d v w) ∨ (∀ w ∈ V, T d v w ≤ 0)) → T d v (sub p q) * T d v (sub p q) * S d e e ≤ (T d e p - T d e q) * (T d e p - T d e q) * S d v v → ∃ a ∈ l, ∃ b ∈ l, good l d e R a b := fun v hv hs hw => by
    refine edge_good (edgeV v hv) ?_ (Int.le_trans hw (Int.mul_le_mul_of_nonneg_right hRs (S_nonneg d v)))
    rcases hs with hs | hs
    · exact .inl (allV v hs)
    · exact .inr (allV' v hs)
  by_cases h0 : ∃ v ∈ V, T d e v = 0
  · obtain ⟨v, hv, hv0⟩ := h0
    have hpar : ∀ w : P3, T d v w * S d e e = S d v e * T d e w := fun w => by
      rw [comp d e v w, hv0, Int.zero_mul, Int.sub_zero, Int.mul_comm]
    have hdd : 0 < S d e e := S_pos he
    refine fin v hv ?_ ?_
    · rcases Int.le_total 0 (S d v e) with s | s
      · refine .inl fun w hw => nonneg_of_mul hdd ?_
        rw [hpar]; exact Int.mul_nonneg s (nonV w hw)
      · refine .inr fun w hw => ?_
        have : 0 ≤ (- T d v w) * S d e e := by
          rw [Int.neg_mul, hpar, ← Int.neg_mul]; exact Int.mul_nonneg (by omega) (nonV w hw)
        have := nonneg_of_mul hdd this
        omega
    · have h1 := hpar (sub p q)
      have h2 : S d v e * S d v e = S d v v * S d e e := by
        have := lagrange d v e
        have t : T d v e = 0 := by rw [T_swap, hv0]; rfl
        rw [t] at this
        simp only [Int.mul_zero, Int.add_zero] at this
        exact this.symm
      rw [T_sub d e] at h1
      generalize T d v (sub p q) = t at *
      generalize T d e p - T d e q = r at *
      generalize S d e e = N at *
      generalize S d v v = U at *
      generalize S d v e = c at *
      have h3 : (t * t * N) * N = (r * r * U) * N := by
        have : (t * t * N) * N = (t * N) * (t * N) := by grind
        rw [this, h1]
        have : c * r * (c * r) = r * r * (c * c) := by grind
        rw [this, h2]; grind
      exact Int.le_of_eq (Int.eq_of_mul_eq_mul_right (by omega) h3)
  · have posV : ∀ v ∈ V, 0 < T d e v := fun v hv => by
      have := nonV v hv
      rcases Int.lt_or_eq_of_le this with h | h
      · exact h
      · exact absurd ⟨v, hv, h.symm⟩ h0
    obtain ⟨v1, hv1, hw1⟩ := outer d e V hVne posV
    obtain ⟨v2, hv2, hw2⟩ := outer' d e V hVne posV
    have r1 : 0 ≤ T d v1 (sub p q) := (allV v1 hw1 q hq).1
    have r2 : 0 ≤ - T d v2 (sub p q) := by have := (allV' v2 hw2 q hq).1; omega
    have m := mix (a := T d e v2) (b := T d e v1) (R1 := T d v1 (sub p q)) (R2 := - T d v2 (sub p q)) (R := T d e p - T d e q) (N := S d e e) (V1 := S d v1 v1) (V2 := S d v2 v2) (D := T d v1 v2) (C := - S d v1 v2)
      (Int.le_of_lt (posV v2 hv2)) (Int.le_of_lt (posV v1 hv1)) r1 r2 hNd (S_nonneg d v1) (S_nonneg d v2)
      (by
        have := three d e v1 v2 (sub p q)
        rw [T_sub d e] at this
        have sw := T_swap d (sub p q) v2
        rw [sw] at this
        rw [this]; grind)
      (mixed d e v1 v2) (by rw [Int.neg_mul_neg]; exact cauchy d v1 v2) (.inl (posV v2 hv2))
    rcases m with m | m
    · exact fin v1 hv1 (.inl hw1) m
    · rw [Int.neg_mul_neg] at m
      exact fin v2 hv2 (.inr hw2) m
end Or
/- SQUARENESS: ends of products; supporting pairs; the least of them: plain laws. -/
namespace Or
open St (sq_nonneg nonneg_of_mul prod_pos mix abs_sq rat_pos le_of_mul_pos divInt_mul)

/-- The least and the greatest number, with their least indices. -/
structure Ed where
  low : Int
  high : Int
  a0 : Nat
  a1 : Nat
def edS (k : Nat) (n : Int) (s : Ed) : Ed := if n < s.low then ⟨n, s.high, k, s.a1⟩ else if s.high < n then ⟨s.low, n, s.a0, k⟩ else s
def edF : List Int → Nat → Ed → Ed
  | [], _, s => s
  | n :: t, k, s => edF t (k + 1) (edS k n s)
/-- The reference asks both questions. -/
def edR (k : Nat) (n : Int) (s : Ed) : Ed := ⟨if n < s.low then n else s.low, if s.high < n then n else s.high, if n < s.low then k else s.a0, if s.high < n then k else s.a1⟩
theorem edS_ord (k : Nat) (n : Int) (s : Ed) (h : s.low ≤ s.high) : (edS k n s).low ≤ (edS k n s).high := by
  unfold edS; split
  · simp only; omega
  · split
    · simp only; omega
    · exact h
/-- What the ends of a list are; its index 'off' stands ahead. -/
theorem edF_spec : ∀ (l : List Int) (k : Nat) (s : Ed), s.low ≤ s.high →
    (edF l k s).low ≤ (edF l k s).high ∧ (edF l k s).low ≤ s.low ∧ s.high ≤ (edF l k s).high ∧ (∀ n ∈ l, (edF l k s).low ≤ n ∧ n ≤ (edF l k s).high) ∧
    ((edF l k s).low = s.low ∧ (edF l k s).a0 = s.a0 ∨ ∃ m, m < l.length ∧ (edF l k s).a0 = k + m ∧ l[m]? = some (edF l k s).low) ∧
    ((edF l k s).high = s.high ∧ (edF l k s).a1 = s.a1 ∨ ∃ m, m < l.length ∧ (edF l k s).a1 = k + m ∧ l[m]? = some (edF l k s).high)
  | [], _, s, h => ⟨h, Int.le_refl _, Int.le_refl _, by simp, .inl ⟨rfl, rfl⟩, .inl ⟨rfl, rfl⟩⟩
  | n :: t, k, s, h => by
    obtain ⟨h1, h2, h3, h4, h5, h6⟩ := edF_spec t (k + 1) (edS k n s) (edS_ord k n s h)
    have e : edF (n :: t) k s = edF t (k + 1) (edS k n s) := rfl
    rw [e]
    have b : (edS k n s).low ≤ s.low ∧ s.high ≤ (edS k n s).high ∧ (edS k n s).low ≤ n ∧ n ≤ (edS k n s).high := by
      unfold edS; split
      · simp only; omega
      · split
        · simp only; omega
        · omega
    refine ⟨h1, by omega, by omega, fun x hx => ?_, ?_, ?_⟩
    · rcases List.mem_cons.1 hx with rfl | hx
      · omega
      · exact h4 x hx
    · rcases h5 with ⟨c1, c2⟩ | ⟨m, hm, c1, c2⟩
      · rw [c1, c2]
        unfold edS
        split
        · exact .inr ⟨0, by simp, rfl, rfl⟩
        · split <;> exact .inl ⟨rfl, rfl⟩
      · exact .inr ⟨m + 1, by simpa using hm, by rw [c1]; omega, by simpa using c2⟩
    · rcases h6 with ⟨c1, c2⟩ | ⟨m, hm, c1, c2⟩
      · rw [c1, c2]
        unfold edS
        split
        · exact .inl ⟨rfl, rfl⟩
        · split
          · exact .inr ⟨0, by simp, rfl, rfl⟩
          · exact .inl ⟨rfl, rfl⟩
      · exact .inr ⟨m + 1, by simpa using hm, by rw [c1]; omega, by simpa using c2⟩
/-- The ends of a list that is not empty. -/
def ends (l : List Int) : Ed := edF l 0 ⟨l.headD 0, l.headD 0, 0, 0⟩
theorem ends_spec {l : List Int} (h : l ≠ []) : (ends l).low ≤ (ends l).high ∧ (∀ n ∈ l, (ends l).low ≤ n ∧ n ≤ (ends l).high) ∧ l[(ends l).a0]? = some (ends l).low ∧ l[(ends l).a1]? = some (ends l).high := by
  obtain ⟨h1, -, -, h4, h5, h6⟩ := edF_spec l 0 ⟨l.headD 0, l.headD 0, 0, 0⟩ (Int.le_refl _)
  have h0 : l[0]? = some (l.headD 0) := by
    cases l with
    | nil => exact absurd rfl h
    | cons a t => rfl
  refine ⟨h1, h4, ?_, ?_⟩
  · rcases h5 with ⟨c1, c2⟩ | ⟨m, -, c1, c2⟩
    · show l[(edF l 0 _).a0]? = some (edF l 0 _).low
      rw [c1, c2]; exact h0
    · show l[(edF l 0 _).a0]? = some (edF l 0 _).low
      rw [c1, Nat.zero_add]; exact c2
  · rcases h6 with ⟨c1, c2⟩ | ⟨m, -, c1, c2⟩
    · show l[(edF l 0 _).a1]? = some (edF l 0 _).high
      rw [c1, c2]; exact h0
    · show l[(edF l 0 _).a1]? = some (edF l 0 _).high
      rw [c1, Nat.zero_add]; exact c2
end Or
/- SQUARENESS: upright zones through pairs, and the least of them: plain laws. -/
namespace Or
open St (sq_nonneg nonneg_of_mul prod_pos mix abs_sq rat_pos le_of_mul_pos divInt_mul)

def at_ (l : List P3) (i : Nat) : P3 := l.getD i ⟨0, 0, 0⟩
theorem at_get {l : List P3} {i : Nat} (h : i < l.length) : at_ l i = l[i] := by unfold at_; rw [List.getD_eq_getElem?_getD, List.getElem?_eq_getElem h]; rfl
theorem at_mem {l : List P3} {i : Nat} (h : i < l.length) : at_ l i ∈ l := by rw [at_get h]; exact List.getElem_mem h
theorem mem_at {l : List P3} {p : P3} (h : p ∈ l) : ∃ i, i < l.length ∧ at_ l i = p := by
  obtain ⟨i, hi, rfl⟩ := List.getElem_of_mem h
  exact ⟨i, hi, at_get hi⟩
/-- The heights over the upright plane through two points, and their ends. -/
def hts (l : List P3) (d : P3) (i j : Nat) : List Int := l.map fun x => hgt d (at_ l i) (at_ l j) x
def eds (l : List P3) (d : P3) (i j : Nat) : Ed := ends (hts l d i j)
/-- A supporting pair: its far product, and the first point that has it. -/
structure Sup where
  i : Nat
  j : Nat
  far : Int
  at' : Nat
  deriving DecidableEq
def okS (l : List P3) (d : P3) (i j : Nat) : Bool := decide (crs d (sub (at_ l j) (at_ l i)) ≠ ⟨0, 0, 0⟩) && !(decide ((eds l d i j).low < 0) && decide (0 < (eds l d i j).high))
def sup (l : List P3) (d : P3) (i j : Nat) : Sup := if (eds l d i j).low < 0 then ⟨i, j, (eds l d i j).low, (eds l d i j).a0⟩ else ⟨i, j, (eds l d i j).high, (eds l d i j).a1⟩
theorem sup_ij (l : List P3) (d : P3) (i j : Nat) : (sup l d i j).i = i ∧ (sup l d i j).j = j := by unfold sup; split <;> exact ⟨rfl, rfl⟩
theorem eds_spec {l : List P3} (d : P3) (i j : Nat) (h : l ≠ []) : (∀ x ∈ l, (eds l d i j).low ≤ hgt d (at_ l i) (at_ l j) x ∧ hgt d (at_ l i) (at_ l j) x ≤ (eds l d i j).high) ∧
    (∃ x ∈ l, (eds l d i j).low = hgt d (at_ l i) (at_ l j) x) ∧ ∃ x ∈ l, (eds l d i j).high = hgt d (at_ l i) (at_ l j) x := by
  obtain ⟨-, h2, h3, h4⟩ := ends_spec (l := hts l d i j) (by unfold hts; simpa using h)
  refine ⟨fun x hx => h2 _ (List.mem_map.2 ⟨x, hx, rfl⟩), ?_, ?_⟩
  · obtain ⟨x, hx, e⟩ := List.mem_map.1 (List.mem_of_getElem? h3)
    exact ⟨x, hx, e.symm⟩
  · obtain ⟨x, hx, e⟩ := List.mem_map.1 (List.mem_of_getElem? h4)
    exact ⟨x, hx, e.symm⟩
theorem okS_iff {l : List P3} {d : P3} {i j : Nat} (h : l ≠ []) : okS l d i j = true ↔ crs d (sub (at_ l j) (at_ l i)) ≠ ⟨0, 0, 0⟩ ∧ one d (at_ l i) (at_ l j) l := by
  obtain ⟨h1, ⟨x, hx, ex⟩, y, hy, ey⟩ := eds_spec d i j h
  unfold okS one
  simp only [Bool.and_eq_true, decide_eq_true_eq, Bool.not_eq_true', Bool.and_eq_false_iff, decide_eq_false_iff_not]
  refine and_congr_right fun _ => ?_
  constructor
  · rintro (c | c)
    · exact .inl fun z hz => by have := (h1 z hz).1; omega
    · exact .inr fun z hz => by have := (h1 z hz).2; omega
  · rintro (c | c)
    · exact .inl (by have := c x hx; omega)
    · exact .inr (by have := c y hy; omega)
/-- The far product reaches as far as any height, and is one of them. -/
theorem sup_far {l : List P3} {d : P3} {i j : Nat} (hl : l ≠ []) (h : okS l d i j = true) : (∀ x ∈ l, hgt d (at_ l i) (at_ l j) x * hgt d (at_ l i) (at_ l j) x ≤ (sup l d i j).far * (sup l d i j).far) ∧
    (∃ x ∈ l, (sup l d i j).far = hgt d (at_ l i) (at_ l j) x) ∧ ∀ x ∈ l, ∀ y ∈ l, hgt d (at_ l i) (at_ l j) x - hgt d (at_ l i) (at_ l j) y ≤ (if 0 ≤ (sup l d i j).far then (sup l d i j).far else -(sup l d i j).far) := by
  obtain ⟨h1, h2, h3⟩ := eds_spec d i j hl
  have ho := ((okS_iff hl).1 h).2
  obtain ⟨x0, hx0, ex0⟩ := h2
  obtain ⟨y0, hy0, ey0⟩ := h3
  unfold sup
  by_cases c : (eds l d i j).low < 0
  · rw [if_pos c]
    have hn : ∀ x ∈ l, hgt d (at_ l i) (at_ l j) x ≤ 0 := by
      rcases ho with ho | ho
      · have := ho x0 hx0; omega
      · exact ho
    refine ⟨fun x hx => ?_, ⟨x0, hx0, ex0⟩, fun x hx y hy => ?_⟩
    · have a := (h1 x hx).1
      have b := hn x hx
      have := abs_sq (u := hgt d (at_ l i) (at_ l j) x) (W := -(eds l d i j).low) (by omega) (by omega) (by omega)
      rw [Int.neg_mul_neg] at this; exact this
    · simp only
      rw [if_neg (by omega)]
      have := hn x hx; have := (h1 y hy).1; omega
  · rw [if_neg c]
    have hp : ∀ x ∈ l, 0 ≤ hgt d (at_ l i) (at_ l j) x := fun x hx => by have := (h1 x hx).1; omega
    have h0 : 0 ≤ (eds l d i j).high := by have := hp y0 hy0; omega
    refine ⟨fun x hx => ?_, ⟨y0, hy0, ey0⟩, fun x hx y hy => ?_⟩
    · have a := (h1 x hx).2
      have b := hp x hx
      exact abs_sq (W := (eds l d i j).high) h0 a (by omega)
    · simp only
      rw [if_pos h0]
      have := hp y hy; have := (h1 x hx).2; omega
/-- The squared width over a normal. -/
def sq (n : Int) (d v : P3) : Rat := Rat.divInt (n * n) (S d v v)
theorem sq_mul {n : Int} {d v : P3} (h : crs d v ≠ ⟨0, 0, 0⟩) : sq n d v * ((S d v v : Int) : Rat) = ((n * n : Int) : Rat) := divInt_mul (by have := S_pos h; omega)
def rowS (l : List P3) (d : P3) (i j : Nat) : List Sup := if j < l.length then (if okS l d i j then sup l d i j :: rowS l d i (j + 1) else rowS l d i (j + 1)) else []
termination_by l.length - j
def allS (l : List P3) (d : P3) (i : Nat) : List Sup := if i < l.length then rowS l d i (i + 1) ++ allS l d (i + 1) else []
termination_by l.length - i
theorem mem_rowS (l : List P3) (d : P3) (i j : Nat) (x : Sup) : x ∈ rowS l d i j ↔ ∃ k, j ≤ k ∧ k < l.length ∧ okS l d i k = true ∧ x = sup l d i k := by
  rw [rowS]
  by_cases h : j < l.length
  · have ih := mem_rowS l d i (j + 1) x
    rw [if_pos h]
    by_cases o : okS l d i j = true
    · rw [if_pos o, List.mem_cons, ih]
      constructor
      · rintro (rfl | ⟨k, h1, h2, h3, h4⟩)
        · exact ⟨j, Nat.le_refl _, h, o, rfl⟩
        · exact ⟨k, by omega, h2, h3, h4⟩
      · rintro ⟨k, h1, h2, h3, h4⟩
        by_cases e : k = j
        · subst e; exact .inl h4
        · exact .inr ⟨k, by omega, h2, h3, h4⟩
    · rw [if_neg o, ih]
      constructor
      · rintro ⟨k, h1, h2, h3, h4⟩; exact ⟨k, by omega, h2, h3, h4⟩
      · rintro ⟨k, h1, h2, h3, h4⟩
        by_cases e : k = j
        · subst e; exact absurd h3 o
        · exact ⟨k, by omega, h2, h3, h4⟩
  · rw [if_neg h]
    constructor
    · intro h; cases h
    · rintro ⟨k, h1, h2, -⟩; omega
termination_by l.length - j
theorem mem_allS (l : List P3) (d : P3) (i : Nat) (x : Sup) : x ∈ allS l d i ↔ ∃ a k, i ≤ a ∧ a < k ∧ k < l.length ∧ okS l d a k = true ∧ x = sup l d a k := by
  rw [allS]
  by_cases h : i < l.length
  · have ih := mem_allS l d (i + 1) x
    rw [if_pos h, List.mem_append, mem_rowS, ih]
    constructor
    · rintro (⟨k, h1, h2, h3, h4⟩ | ⟨a, k, h0, h1, h2, h3, h4⟩)
      · exact ⟨i, k, Nat.le_refl _, by omega, h2, h3, h4⟩
      · exact ⟨a, k, by omega, h1, h2, h3, h4⟩
    · rintro ⟨a, k, h0, h1, h2, h3, h4⟩
      by_cases e : a = i
      · subst e; exact .inl ⟨k, by omega, h2, h3, h4⟩
      · exact .inr ⟨a, k, by omega, h1, h2, h3, h4⟩
  · rw [if_neg h]
    constructor
    · intro h; cases h
    · rintro ⟨a, k, h0, h1, h2, -⟩; omega
termination_by l.length - i
end Or
/- SQUARENESS: the least upright zone: plain laws. -/
namespace Or
open St (sq_nonneg nonneg_of_mul prod_pos mix abs_sq rat_pos le_of_mul_pos divInt_mul)

def sv (l : List P3) (d : P3) (x : Sup) : Rat := sq x.far d (sub (at_ l x.j) (at_ l x.i))
def bet (l : List P3) (d : P3) (s : Option Sup) (x : Sup) : Option Sup := match s with
  | none => some x
  | some y => if sv l d x < sv l d y then some x else some y
def least (l : List P3) (d : P3) : Option Sup := (allS l d 0).foldl (bet l d) none
theorem fold_some (l : List P3) (d : P3) : ∀ (t : List Sup) (y : Sup), ∃ x, t.foldl (bet l d) (some y) = some x ∧ (x = y ∨ x ∈ t) ∧ sv l d x ≤ sv l d y ∧ ∀ z ∈ t, sv l d x ≤ sv l d z
  | [], y => ⟨y, rfl, .inl rfl, Rat.le_refl, by simp⟩
  | u :: t, y => by
    rw [List.foldl_cons]
    by_cases h : sv l d u < sv l d y
    · obtain ⟨x, h1, h2, h3, h4⟩ := fold_some l d t u
      refine ⟨x, by unfold bet at *; simp only [if_pos h]; exact h1, ?_, Rat.le_trans h3 (Rat.le_of_lt h), fun z hz => ?_⟩
      · rcases h2 with rfl | h2
        · exact .inr (by simp)
        · exact .inr (List.mem_cons_of_mem _ h2)
      · rcases List.mem_cons.1 hz with rfl | hz
        · exact h3
        · exact h4 z hz
    · obtain ⟨x, h1, h2, h3, h4⟩ := fold_some l d t y
      refine ⟨x, by unfold bet at *; simp only [if_neg h]; exact h1, ?_, h3, fun z hz => ?_⟩
      · rcases h2 with rfl | h2
        · exact .inl rfl
        · exact .inr (List.mem_cons_of_mem _ h2)
      · rcases List.mem_cons.1 hz with rfl | hz
        · exact Rat.le_trans h3 (Rat.not_lt.1 h)
        · exact h4 z hz
theorem least_some {l : List P3} {d : P3} {x : Sup} (h : least l d = some x) : x ∈ allS l d 0 ∧ ∀ z ∈ allS l d 0, sv l d x ≤ sv l d z := by
  unfold least at h
  cases q : allS l d 0 with
  | nil => rw [q] at h; cases h
  | cons y t =>
    rw [q, List.foldl_cons] at h
    obtain ⟨x', h1, h2, h3, h4⟩ := fold_some l d t y
    rw [show bet l d none y = some y from rfl, h1] at h
    cases h
    refine ⟨?_, fun z hz => ?_⟩
    · rcases h2 with rfl | h2
      · simp
      · exact List.mem_cons_of_mem _ h2
    · rcases List.mem_cons.1 hz with rfl | hz
      · exact h3
      · exact h4 z hz
/-- The squared width of the upright zone. -/
def wid (l : List P3) (d : P3) : Rat := match least l d with
  | none => 0
  | some x => sv l d x
/-- THE UPRIGHT ZONE IS AT MOST AS WIDE AS THE PARALLEL ONE over any normal that is square to d. -/
theorem wid_le {l : List P3} {d e : P3} {R : Int} (he : crs d e ≠ ⟨0, 0, 0⟩) (hR : ∀ x ∈ l, ∀ y ∈ l, T d e x - T d e y ≤ R) : wid l d ≤ sq R d e := by
  have hS := rat_pos (S_pos he)
  apply le_of_mul_pos hS
  rw [sq_mul he]
  cases hw : least l d with
  | none =>
    unfold wid; rw [hw]
    simp only
    have := Rat.intCast_le_intCast.2 (sq_nonneg R)
    rw [Rat.zero_mul]; simpa using this
  | some z =>
    obtain ⟨hz, hm⟩ := least_some hw
    obtain ⟨i0, j0, -, hij0, hj0, hok0, -⟩ := (mem_allS l d 0 z).1 hz
    have hl : l ≠ [] := by rintro rfl; simp at hj0
    obtain ⟨a, ha, b, hb, hg⟩ := edge_le he ⟨_, at_mem (show i0 < l.length by omega), _, at_mem hj0, ((okS_iff hl).1 hok0).1⟩ hR
    obtain ⟨i, hi, rfl⟩ := mem_at ha
    obtain ⟨j, hj, rfl⟩ := mem_at hb
    have key : ∀ i j, i < j → j < l.length → good l d e R (at_ l i) (at_ l j) → wid l d * ((S d e e : Int) : Rat) ≤ ((R * R : Int) : Rat) := fun i j h0 hj hg => by
      have hok : okS l d i j = true := (okS_iff hl).2 ⟨hg.1, hg.2.1⟩
      have h1 := hm _ ((mem_allS l d 0 _).2 ⟨i, j, Nat.zero_le _, h0, hj, hok, rfl⟩)
      have ew : wid l d = sv l d z := by unfold wid; rw [hw]
      rw [ew]
      obtain ⟨-, ⟨x, hx, hxe⟩, -⟩ := sup_far hl hok
      have h3 := hg.2.2 x hx
      rw [← hxe] at h3
      have hf := S_pos hg.1
      have h4 := sq_mul (n := (sup l d i j).far) hg.1
      have h5 : sv l d (sup l d i j) = sq (sup l d i j).far d (sub (at_ l j) (at_ l i)) := by unfold sv; rw [(sup_ij l d i j).1, (sup_ij l d i j).2]
      rw [← h5] at h4
      have h6 : sv l d (sup l d i j) * ((S d e e : Int) : Rat) ≤ ((R * R : Int) : Rat) := by
        apply le_of_mul_pos (rat_pos hf)
        have := Rat.intCast_le_intCast.2 h3
        rw [Rat.intCast_mul ((sup l d i j).far * (sup l d i j).far), ← h4, Rat.intCast_mul (R * R)] at this
        grind
      exact Rat.le_trans (Rat.mul_le_mul_of_nonneg_right h1 (Rat.le_of_lt hS)) h6
    have hij : i ≠ j := by rintro rfl; apply hg.1; unfold crs sub; simp
    rcases Nat.lt_or_gt_of_ne hij with q | q
    · exact key i j q hj hg
    · exact key j i q hi (good_swap hg)
end Or
/- SQUARENESS: the upright zone and the spread; points that slide: plain laws. -/
namespace Or
open St (sq_nonneg nonneg_of_mul prod_pos mix abs_sq rat_pos le_of_mul_pos divInt_mul)

/-- A point that has moved along d. -/
def slid (d a b : P3) : Prop := ∃ k : Int, b = ⟨a.x + k * d.x, a.y + k * d.y, a.z + k * d.z⟩
section
variable {l m : List P3} {d : P3} (hlen : m.length = l.length) (hs : ∀ i, i < l.length → slid d (at_ l i) (at_ m i))
include hlen hs
end
end Or
/- SQUARENESS: the upright zone is the parallel one over its own normal: plain laws. -/
namespace Or
open St (sq_nonneg nonneg_of_mul prod_pos mix abs_sq rat_pos le_of_mul_pos divInt_mul)

/-- How far products with a vector reach. -/
def rng (l : List P3) (n : P3) : Int := (ends (l.map (dot n))).high - (ends (l.map (dot n))).low
/-- The squared width of the parallel zone over a normal. -/
def par (l : List P3) (n : P3) : Rat := Rat.divInt (rng l n * rng l n) (dot n n)
end Or
/- ZONES IN THE PLANE: the length and the sense of the direction do not matter: plain laws. -/
namespace Or
open St (sq_nonneg abs_sq rat_pos le_of_mul_pos divInt_mul)

/-- How far numbers of points reach. -/
def rg (l : List St.Pt) (f : St.Pt → Int) : Int := (ends (l.map f)).high - (ends (l.map f)).low
theorem rg_spec {l : List St.Pt} (f : St.Pt → Int) (hl : l ≠ []) : (∀ x ∈ l, ∀ y ∈ l, f x - f y ≤ rg l f) ∧ ∃ x ∈ l, ∃ y ∈ l, rg l f = f x - f y := by
  obtain ⟨-, h2, h3, h4⟩ := ends_spec (l := l.map f) (by simpa using hl)
  unfold rg
  refine ⟨fun x hx y hy => ?_, ?_⟩
  · have := (h2 _ (List.mem_map.2 ⟨x, hx, rfl⟩)).2
    have := (h2 _ (List.mem_map.2 ⟨y, hy, rfl⟩)).1
    omega
  · obtain ⟨x, hx, ex⟩ := List.mem_map.1 (List.mem_of_getElem? h4)
    obtain ⟨y, hy, ey⟩ := List.mem_map.1 (List.mem_of_getElem? h3)
    exact ⟨x, hx, y, hy, by rw [ex, ey]⟩
/-- The zones along and beside a direction. -/
def along (l : List St.Pt) (d : St.Pt) : Rat := Rat.divInt (rg l (St.crs d) * rg l (St.crs d)) (St.dot d d)
def beside (l : List St.Pt) (d : St.Pt) : Rat := Rat.divInt (rg l (St.dot d) * rg l (St.dot d)) (St.dot d d)
theorem dot2_pos {d : St.Pt} (h : d ≠ ⟨0, 0⟩) : 0 < St.dot d d := by
  have h1 := sq_nonneg d.x
  have h2 := sq_nonneg d.y
  rcases Int.lt_or_eq_of_le (St.dot_self_nonneg d) with q | q
  · exact q
  · exfalso; apply h
    unfold St.dot at q
    have e1 : d.x * d.x = 0 := by omega
    have e2 : d.y * d.y = 0 := by omega
    cases d; simp only [St.Pt.mk.injEq]
    exact ⟨(Int.mul_eq_zero.1 e1).elim id id, (Int.mul_eq_zero.1 e2).elim id id⟩
end Or
/- SQUARENESS: points of the plane that are lifted: plain laws. -/
namespace Or

def flat (p : P3) : St.Pt := ⟨p.x, p.y⟩
def up : P3 := ⟨0, 0, 1⟩
end Or
/- SQUARENESS: the spread; the least upright zone, step by step: plain laws. -/
namespace Or
open St (sq_nonneg)

/-- The greatest way between two points, square to d, and the first pair that has it. -/
structure Spr where
  n : Int
  i : Nat
  j : Nat
  deriving DecidableEq
def wy (l : List P3) (d : P3) (i j : Nat) : Int := dot (crs (sub (at_ l i) (at_ l j)) d) (crs (sub (at_ l i) (at_ l j)) d)
def spS (l : List P3) (d : P3) (i j : Nat) (s : Spr) : Spr := if s.n < wy l d i j then ⟨wy l d i j, i, j⟩ else s
def spR (l : List P3) (d : P3) (i j : Nat) (s : Spr) : Spr := if j < l.length then spR l d i (j + 1) (spS l d i j s) else s
termination_by l.length - j
def spA (l : List P3) (d : P3) (i : Nat) (s : Spr) : Spr := if i < l.length then spA l d (i + 1) (spR l d i (i + 1) s) else s
termination_by l.length - i
def spread (l : List P3) (d : P3) : Spr := spA l d 0 ⟨-1, 0, 0⟩
/-- Beginning, or a pair. -/
def SpOk (l : List P3) (d : P3) (s : Spr) : Prop := s = ⟨-1, 0, 0⟩ ∨ ∃ i j, i < j ∧ j < l.length ∧ s = ⟨wy l d i j, i, j⟩
/-- The number of the spread: 0 for one point. -/
def spN (l : List P3) (d : P3) : Int := if l.length = 1 then 0 else (spread l d).n
def upR (l : List P3) (d : P3) (i j : Nat) (s : Option Sup) : Option Sup := (rowS l d i j).foldl (bet l d) s
def upA (l : List P3) (d : P3) (i : Nat) (s : Option Sup) : Option Sup := (allS l d i).foldl (bet l d) s
def lined (l : List P3) (d : P3) : Bool := (List.range l.length).all fun i => decide (crs d (sub (at_ l i) (at_ l 0)) = ⟨0, 0, 0⟩)
theorem crs_sub (d a b : P3) : crs d (sub a b) = sub (crs d a) (crs d b) := by unfold crs sub; simp only [P3.mk.injEq]; refine ⟨by grind, by grind, by grind⟩
end Or
/- SQUARENESS: the chapter's examples, reckoned. Plain. -/
namespace Or
abbrev ex3 : List P3 := [⟨0, 0, 0⟩, ⟨4, 0, 7⟩, ⟨0, 3, -2⟩]
abbrev upZ : P3 := ⟨0, 0, 1⟩
end Or
/- SQUARENESS: proofs of the upright zone: plain laws. -/
namespace Or

/-- The proof of the least upright zone. -/
def prI : Option Sup → Nat | none => 0 | some x => x.i
def prJ : Option Sup → Nat | none => 0 | some x => x.j
def prK : Option Sup → Nat | none => 0 | some x => x.at'
end Or
