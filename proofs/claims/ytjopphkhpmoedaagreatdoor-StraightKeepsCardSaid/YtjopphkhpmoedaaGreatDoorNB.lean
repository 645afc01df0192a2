/- STRAIGHTNESS: widths across directions; fewer points; points that are moved: plain laws. -/
import Derived.Test.YtjopphkhpmoedaaGreatDoorNA
namespace St

def loF (a b : Pt) : List Pt → Int → Int
  | [], n => n
  | p :: t, n => loF a b t (min n (left a b p))
def hiF (a b : Pt) : List Pt → Int → Int
  | [], n => n
  | p :: t, n => hiF a b t (max n (left a b p))
theorem loF_spec (a b : Pt) : ∀ (l : List Pt) (n : Int), loF a b l n ≤ n ∧ (∀ x ∈ l, loF a b l n ≤ left a b x) ∧ (loF a b l n = n ∨ ∃ x ∈ l, loF a b l n = left a b x)
  | [], n => ⟨Int.le_refl _, by simp, .inl rfl⟩
  | p :: t, n => by
    obtain ⟨h1, h2, h3⟩ := loF_spec a b t (min n (left a b p))
    have e : loF a b (p :: t) n = loF a b t (min n (left a b p)) := rfl
    rw [e]
    refine ⟨by omega, fun x hx => ?_, ?_⟩
    · rcases List.mem_cons.1 hx with rfl | hx
      · omega
      · exact h2 x hx
    · rcases h3 with h3 | ⟨x, hx, h3⟩
      · rcases Int.le_total n (left a b p) with q | q
        · exact .inl (by omega)
        · exact .inr ⟨p, by simp, by omega⟩
      · exact .inr ⟨x, List.mem_cons_of_mem _ hx, h3⟩
theorem hiF_spec (a b : Pt) : ∀ (l : List Pt) (n : Int), n ≤ hiF a b l n ∧ (∀ x ∈ l, left a b x ≤ hiF a b l n) ∧ (hiF a b l n = n ∨ ∃ x ∈ l, hiF a b l n = left a b x)
  | [], n => ⟨Int.le_refl _, by simp, .inl rfl⟩
  | p :: t, n => by
    obtain ⟨h1, h2, h3⟩ := hiF_spec a b t (max n (left a b p))
    have e : hiF a b (p :: t) n = hiF a b t (max n (left a b p)) := rfl
    rw [e]
    refine ⟨by omega, fun x hx => ?_, ?_⟩
    · rcases List.mem_cons.1 hx with rfl | hx
      · omega
      · exact h2 x hx
    · rcases h3 with h3 | ⟨x, hx, h3⟩
      · rcases Int.le_total n (left a b p) with q | q
        · exact .inr ⟨p, by simp, by omega⟩
        · exact .inl (by omega)
      · exact .inr ⟨x, List.mem_cons_of_mem _ hx, h3⟩
/-- How far the points reach across a direction. -/
def acr (l : List Pt) (a b : Pt) : Int := hiF a b l (left a b (at_ l 0)) - loF a b l (left a b (at_ l 0))
theorem acr_spec {l : List Pt} (a b : Pt) (hl : l ≠ []) : (∀ x ∈ l, ∀ y ∈ l, left a b x - left a b y ≤ acr l a b) ∧ ∃ x ∈ l, ∃ y ∈ l, acr l a b = left a b x - left a b y := by
  have h0 : at_ l 0 ∈ l := at_mem (List.length_pos_iff.2 hl)
  obtain ⟨-, h2, h3⟩ := loF_spec a b l (left a b (at_ l 0))
  obtain ⟨-, k2, k3⟩ := hiF_spec a b l (left a b (at_ l 0))
  unfold acr
  refine ⟨fun x hx y hy => by have := k2 x hx; have := h2 y hy; omega, ?_⟩
  obtain ⟨x, hx, ex⟩ : ∃ x ∈ l, hiF a b l (left a b (at_ l 0)) = left a b x := by
    rcases k3 with k3 | k3
    · exact ⟨_, h0, k3⟩
    · exact k3
  obtain ⟨y, hy, ey⟩ : ∃ x ∈ l, loF a b l (left a b (at_ l 0)) = left a b x := by
    rcases h3 with h3 | h3
    · exact ⟨_, h0, h3⟩
    · exact h3
  exact ⟨x, hx, y, hy, by rw [ex, ey]⟩
theorem left_diff (a b x y : Pt) : left a b x - left a b y = crs (sub b a) x - crs (sub b a) y := by rw [left_h, left_h]; omega
theorem sub_ne_zero {a b : Pt} (h : a ≠ b) : sub b a ≠ ⟨0, 0⟩ := fun e => by
  apply h
  unfold sub at e
  injection e with h1 h2
  cases a; cases b; simp only [Pt.mk.injEq]; simp only at h1 h2; omega
/-- The width is at most R across two points, where the points reach at most R. -/
theorem wid_le_wq {l : List Pt} {a b : Pt} {R : Int} (h : a ≠ b) (hR : ∀ x ∈ l, ∀ y ∈ l, left a b x - left a b y ≤ R) : wid l ≤ wq R a b := by
  have h1 := wid_le (l := l) (d := sub b a) (R := R) (sub_ne_zero h) (fun x hx y hy => by rw [← left_diff]; exact hR x hx y hy)
  rw [← far_dot, ← wq_mul h] at h1
  exact le_of_mul_pos (rat_pos (far_pos h)) h1
theorem wid_le_acr {l : List Pt} {a b : Pt} (hl : l ≠ []) (h : a ≠ b) : wid l ≤ wq (acr l a b) a b := wid_le_wq h (acr_spec a b hl).1
/-- Across a supporting pair the points reach as far as the area says. -/
theorem one_range {l : List Pt} {i j : Nat} (h : okP l i j = true) : ∀ x ∈ l, ∀ y ∈ l, left (at_ l i) (at_ l j) x - left (at_ l i) (at_ l j) y ≤ (prf l i j).area := by
  intro x hx y hy
  obtain ⟨-, h2, -⟩ := prf_area l i j
  have := h2 x hx
  have := h2 y hy
  rcases (okP_iff.1 h).2 with q | q
  · have := q y hy; omega
  · have := q x hx; omega
theorem left_self (a b : Pt) : left a b a = 0 := by unfold left; grind
theorem acr_pair {l : List Pt} {i j : Nat} (hi : i < l.length) (h : okP l i j = true) : acr l (at_ l i) (at_ l j) = (prf l i j).area := by
  have hl : l ≠ [] := by rintro rfl; simp at hi
  obtain ⟨h1, x, hx, y, hy, h2⟩ := acr_spec (at_ l i) (at_ l j) hl
  have r := one_range h x hx y hy
  rw [← h2] at r
  obtain ⟨p0, p1, p2⟩ := prf_area l i j
  have hi' := at_mem hi
  have z := left_self (at_ l i) (at_ l j)
  rcases p2 with ⟨e, -⟩ | ⟨hf, e⟩
  · have := h1 _ hi' _ hi'; omega
  · have hf' := at_mem hf
    have := h1 _ hf' _ hi'
    have := h1 _ hi' _ hf'
    omega
/-- THE WIDTH IS THAT ACROSS ITS PAIR. -/
theorem least_pair {l : List Pt} {z : Prf} (h : least l = some z) : z.i < z.j ∧ z.j < l.length ∧ at_ l z.i ≠ at_ l z.j ∧ okP l z.i z.j = true ∧ z = prf l z.i z.j ∧ acr l (at_ l z.i) (at_ l z.j) = z.area ∧ wid l = wq z.area (at_ l z.i) (at_ l z.j) := by
  obtain ⟨i, j, -, h1, h2, h3, rfl⟩ := (mem_allP l 0 z).1 (least_some h).1
  refine ⟨h1, h2, (okP_iff.1 h3).1, h3, rfl, acr_pair (by show i < l.length; omega) h3, ?_⟩
  unfold wid; rw [h]; rfl
theorem same_none {l : List Pt} (h : ∀ a ∈ l, ∀ b ∈ l, a = b) : least l = none := by
  cases q : least l with
  | none => rfl
  | some z =>
    obtain ⟨h1, h2, h3, -⟩ := least_pair q
    exact absurd (h _ (at_mem (by omega)) _ (at_mem h2)) h3
theorem wid_same {l : List Pt} (h : ∀ a ∈ l, ∀ b ∈ l, a = b) : wid l = 0 := by unfold wid; rw [same_none h]
theorem wid_nonneg (l : List Pt) : 0 ≤ wid l := by
  cases q : least l with
  | none => unfold wid; rw [q]; exact Rat.le_refl
  | some z =>
    obtain ⟨-, -, h3, -, -, -, e⟩ := least_pair q
    apply le_of_mul_pos (rat_pos (far_pos h3))
    rw [e, wq_mul h3, Rat.zero_mul]
    have := Rat.intCast_le_intCast.2 (sq_nonneg z.area); simpa using this
/-- FEWER POINTS ARE NOT WIDER. -/
theorem wid_mono {l m : List Pt} (h : ∀ x ∈ m, x ∈ l) : wid m ≤ wid l := by
  cases q : least l with
  | none =>
    have s := all_same (least_none q)
    rw [wid_same s, wid_same (fun a ha b hb => s a (h a ha) b (h b hb))]
    exact Rat.le_refl
  | some z =>
    obtain ⟨h1, h2, h3, h4, h5, h6, e⟩ := least_pair q
    rw [e]
    refine wid_le_wq h3 fun x hx y hy => ?_
    have := one_range h4 x (h x hx) y (h y hy)
    rw [← h5] at this; exact this
/-- Points that are moved by a map that scales areas by s, and squares by c. -/
theorem wid_map_le {T : Pt → Pt} {s c : Int} {l : List Pt} (hT : ∀ a b p, left (T a) (T b) (T p) = s * left a b p) (hF : ∀ a b, far (T a) (T b) = c * far a b) (hc : 0 < c) :
    wid (l.map T) * (c : Rat) ≤ ((s * s : Int) : Rat) * wid l := by
  have hcr := rat_pos hc
  cases q : least l with
  | none =>
    have s := all_same (least_none q)
    rw [wid_same s, wid_same (fun a ha b hb => by
      obtain ⟨x, hx, rfl⟩ := List.mem_map.1 ha
      obtain ⟨y, hy, rfl⟩ := List.mem_map.1 hb
      rw [s x hx y hy]), Rat.zero_mul, Rat.mul_zero]
    exact Rat.le_refl
  | some z =>
    obtain ⟨h1, h2, h3, h4, h5, h6, e⟩ := least_pair q
    have hne : T (at_ l z.i) ≠ T (at_ l z.j) := fun e' => by
      have h := hF (at_ l z.i) (at_ l z.j)
      have hp := Int.mul_pos hc (far_pos h3)
      rw [← h, e'] at hp
      have : far (T (at_ l z.j)) (T (at_ l z.j)) = 0 := by unfold far; simp
      omega
    have A := (prf_area l z.i z.j).1
    rw [← h5] at A
    have bd : ∀ x ∈ l.map T, ∀ y ∈ l.map T, left (T (at_ l z.i)) (T (at_ l z.j)) x - left (T (at_ l z.i)) (T (at_ l z.j)) y ≤ (if 0 ≤ s then s else -s) * z.area := by
      intro x hx y hy
      obtain ⟨x, hx', rfl⟩ := List.mem_map.1 hx
      obtain ⟨y, hy', rfl⟩ := List.mem_map.1 hy
      rw [hT, hT]
      have r1 := one_range h4 x hx' y hy'
      have r2 := one_range h4 y hy' x hx'
      rw [← h5] at r1 r2
      split
      · rename_i hs
        have := Int.mul_le_mul_of_nonneg_left r1 hs
        rw [Int.mul_sub] at this; exact this
      · rename_i hs
        have := Int.mul_le_mul_of_nonneg_left r2 (show 0 ≤ -s by omega)
        rw [Int.mul_sub] at this
        simp only [Int.neg_mul] at this ⊢
        omega
    have w1 := wid_le_wq hne bd
    have w2 := wq_mul (n := (if 0 ≤ s then s else -s) * z.area) hne
    have w3 := wq_mul (n := z.area) h3
    rw [hF, Rat.intCast_mul] at w2
    rw [e]
    have sq : ((if 0 ≤ s then s else -s) * z.area) * ((if 0 ≤ s then s else -s) * z.area) = s * s * (z.area * z.area) := by
      split <;> grind
    rw [sq, Rat.intCast_mul (s * s), ← w3] at w2
    have hf := rat_pos (far_pos h3)
    apply le_of_mul_pos hf
    have := Rat.mul_le_mul_of_nonneg_right w1 (Rat.le_of_lt (Rat.mul_pos hcr hf))
    grind
end St
/- STRAIGHTNESS: points that are moved; triangles: plain laws. -/
namespace St

theorem at_map (T : Pt → Pt) {l : List Pt} {i : Nat} (h : i < l.length) : at_ (l.map T) i = T (at_ l i) := by
  rw [at_get (by simpa using h), at_get h, List.getElem_map]
/-- POINTS THAT ARE MOVED BY A MAP that scales areas by s, and squares by c. -/
theorem wid_map {T : Pt → Pt} {s c : Int} {l : List Pt} (hT : ∀ a b p, left (T a) (T b) (T p) = s * left a b p) (hF : ∀ a b, far (T a) (T b) = c * far a b) (hc : 0 < c) :
    wid (l.map T) * (c : Rat) = ((s * s : Int) : Rat) * wid l := by
  apply Rat.le_antisymm (wid_map_le hT hF hc)
  have hcr := rat_pos hc
  have ne : ∀ a b, T a ≠ T b → a ≠ b := fun a b h e => h (by rw [e])
  cases q : least (l.map T) with
  | none =>
    have sm := all_same (least_none q)
    have sl : ∀ a ∈ l, ∀ b ∈ l, a = b := fun a ha b hb => Decidable.byContradiction fun hab => by
      have h1 := sm _ (List.mem_map.2 ⟨a, ha, rfl⟩) _ (List.mem_map.2 ⟨b, hb, rfl⟩)
      have h2 := Int.mul_pos hc (far_pos hab)
      rw [← hF, h1] at h2
      have : far (T b) (T b) = 0 := by unfold far; simp
      omega
    rw [wid_same sm, wid_same sl, Rat.zero_mul, Rat.mul_zero]
    exact Rat.le_refl
  | some z =>
    obtain ⟨h1, h2, h3, h4, h5, h6, e⟩ := least_pair q
    rw [List.length_map] at h2
    rw [at_map T (show z.i < l.length by omega), at_map T h2] at h3 e
    have A := (prf_area (l.map T) z.i z.j).1
    rw [← h5] at A
    have hab := ne _ _ h3
    obtain ⟨b1, x, hx, y, hy, b2⟩ := acr_spec (l := l) (at_ l z.i) (at_ l z.j) (by rintro rfl; simp at h2)
    have w1 := wid_le_wq (l := l) hab b1
    have r0 : 0 ≤ acr l (at_ l z.i) (at_ l z.j) := by have := b1 x hx x hx; omega
    have r1 : s * acr l (at_ l z.i) (at_ l z.j) ≤ z.area ∧ -(z.area) ≤ s * acr l (at_ l z.i) (at_ l z.j) := by
      have k1 := one_range h4 (T x) (List.mem_map.2 ⟨x, hx, rfl⟩) (T y) (List.mem_map.2 ⟨y, hy, rfl⟩)
      have k2 := one_range h4 (T y) (List.mem_map.2 ⟨y, hy, rfl⟩) (T x) (List.mem_map.2 ⟨x, hx, rfl⟩)
      rw [← h5, at_map T (show z.i < l.length by omega), at_map T h2, hT, hT] at k1 k2
      rw [b2, Int.mul_sub]; omega
    have r2 := abs_sq A r1.1 r1.2
    have w2 := wq_mul (n := acr l (at_ l z.i) (at_ l z.j)) hab
    have w3 := wq_mul (n := z.area) h3
    rw [hF, Rat.intCast_mul] at w3
    rw [e]
    have hf := rat_pos (far_pos hab)
    apply le_of_mul_pos hf
    have r3 := Rat.intCast_le_intCast.2 r2
    have e1 : s * acr l (at_ l z.i) (at_ l z.j) * (s * acr l (at_ l z.i) (at_ l z.j)) = s * s * (acr l (at_ l z.i) (at_ l z.j) * acr l (at_ l z.i) (at_ l z.j)) := by grind
    rw [e1, Rat.intCast_mul (s * s), ← w2, ← w3] at r3
    have ss : (0 : Rat) ≤ ((s * s : Int) : Rat) := by have := Rat.intCast_le_intCast.2 (sq_nonneg s); simpa using this
    have r4 := Rat.mul_le_mul_of_nonneg_right (Rat.mul_le_mul_of_nonneg_left w1 ss) (Rat.le_of_lt hf)
    grind
theorem wid_iso {T : Pt → Pt} {s : Int} {l : List Pt} (hT : ∀ a b p, left (T a) (T b) (T p) = s * left a b p) (hF : ∀ a b, far (T a) (T b) = far a b) (hs : s = 1 ∨ s = -1) : wid (l.map T) = wid l := by
  have h := wid_map (c := 1) (l := l) hT (fun a b => by rw [hF]; omega) (by decide)
  have e : s * s = 1 := by rcases hs with rfl | rfl <;> rfl
  rw [e] at h
  simpa using h
theorem wid_shift (v : Pt) (l : List Pt) : wid (l.map (fun p => ⟨p.x + v.x, p.y + v.y⟩)) = wid l := wid_iso (s := 1) (fun a b p => by simp only [left]; grind) (fun a b => by simp only [far]; grind) (.inl rfl)
theorem wid_mirror (l : List Pt) : wid (l.map (fun p => ⟨-p.x, p.y⟩)) = wid l := wid_iso (s := -1) (fun a b p => by simp only [left]; grind) (fun a b => by simp only [far]; grind) (.inr rfl)
theorem wid_turn (l : List Pt) : wid (l.map (fun p => ⟨-p.y, p.x⟩)) = wid l := wid_iso (s := 1) (fun a b p => by simp only [left]; grind) (fun a b => by simp only [far]; grind) (.inl rfl)
theorem wid_double (l : List Pt) : wid (l.map (fun p => ⟨2 * p.x, 2 * p.y⟩)) = wid l * 4 := by
  have h := wid_map (T := fun p => ⟨2 * p.x, 2 * p.y⟩) (s := 4) (c := 4) (l := l) (fun a b p => by simp only [left]; grind) (fun a b => by simp only [far]; grind) (by decide)
  have e : (((4 : Int) * 4 : Int) : Rat) = 16 := rfl
  have e' : ((4 : Int) : Rat) = 4 := rfl
  rw [e, e'] at h
  grind
/-- Over two corners of a triangle the third one has its area. -/
theorem tri_left (p q r : Pt) : left p q r = left p q r ∧ left q r p = left p q r ∧ left r p q = left p q r ∧ left p r q = - left p q r ∧ left q p r = - left p q r ∧ left r q p = - left p q r := by
  unfold left; refine ⟨rfl, by grind, by grind, by grind, by grind, by grind⟩
theorem left_end (a b : Pt) : left a b b = 0 := by unfold left; grind
theorem far_swap (a b : Pt) : far a b = far b a := by unfold far; grind
theorem far_self (a : Pt) : far a a = 0 := by unfold far; simp
theorem far_nonneg (a b : Pt) : 0 ≤ far a b := by rw [far_dot]; exact dot_self_nonneg _
theorem abs_mul (n : Int) : (if 0 ≤ n then n else -n) * (if 0 ≤ n then n else -n) = n * n := by
  split
  · rfl
  · exact Int.neg_mul_neg _ _
/-- THE WIDTH OF A TRIANGLE. -/
theorem wid_tri {p q r : Pt} (h : ¬ (p = q ∧ q = r)) : wid [p, q, r] = Rat.divInt (left p q r * left p q r) (max (max (far p q) (far q r)) (far r p)) := by
  obtain ⟨-, t1, t2, t3, t4, t5⟩ := tri_left p q r
  have f1 := far_nonneg p q
  have f2 := far_nonneg q r
  have f3 := far_nonneg r p
  -- a longest side
  have up : ∀ a b : Pt, a ∈ [p, q, r] → b ∈ [p, q, r] → a ≠ b → wid [p, q, r] ≤ Rat.divInt (left p q r * left p q r) (far a b) := fun a b ha hb hab => by
    have := wid_le_wq (l := [p, q, r]) (a := a) (b := b) (R := if 0 ≤ left p q r then left p q r else - left p q r) hab (fun x hx y hy => by
      have e : ∀ x ∈ [p, q, r], left a b x = 0 ∨ left a b x = left a b (if a ≠ p ∧ b ≠ p then p else if a ≠ q ∧ b ≠ q then q else r) := fun x hx => by
        have l1 := left_self a b
        have l2 := left_end a b
        by_cases x1 : x = a
        · subst x1; exact .inl l1
        by_cases x2 : x = b
        · subst x2; exact .inl l2
        refine .inr ?_
        congr 1
        simp only [List.mem_cons, List.not_mem_nil, or_false] at ha hb hx
        grind
      have s : left a b (if a ≠ p ∧ b ≠ p then p else if a ≠ q ∧ b ≠ q then q else r) = left p q r ∨ left a b (if a ≠ p ∧ b ≠ p then p else if a ≠ q ∧ b ≠ q then q else r) = - left p q r ∨ left a b (if a ≠ p ∧ b ≠ p then p else if a ≠ q ∧ b ≠ q then q else r) = 0 := by
        have l1 := left_self a b
        have l2 := left_end a b
        simp only [List.mem_cons, List.not_mem_nil, or_false] at ha hb
        rcases ha with rfl | rfl | rfl <;> rcases hb with rfl | rfl | rfl <;> grind
      have e1 := e x hx
      have e2 := e y hy
      generalize left a b (if a ≠ p ∧ b ≠ p then p else if a ≠ q ∧ b ≠ q then q else r) = u at *
      split <;> omega)
    unfold wq at this
    rw [abs_mul] at this
    exact this
  have mem : p ∈ [p, q, r] ∧ q ∈ [p, q, r] ∧ r ∈ [p, q, r] := by simp
  have side : ∃ a b, a ∈ [p, q, r] ∧ b ∈ [p, q, r] ∧ far a b = max (max (far p q) (far q r)) (far r p) := by
    rcases Int.le_total (far p q) (far q r) with c1 | c1
    · rcases Int.le_total (far q r) (far r p) with c2 | c2
      · exact ⟨r, p, mem.2.2, mem.1, by omega⟩
      · exact ⟨q, r, mem.2.1, mem.2.2, by omega⟩
    · rcases Int.le_total (far p q) (far r p) with c2 | c2
      · exact ⟨r, p, mem.2.2, mem.1, by omega⟩
      · exact ⟨p, q, mem.1, mem.2.1, by omega⟩
  have pos : 0 < max (max (far p q) (far q r)) (far r p) := by
    by_cases c : p = q
    · have : q ≠ r := fun c' => h ⟨c, c'⟩
      have := far_pos this; omega
    · have := far_pos c; omega
  obtain ⟨a, b, ha, hb, hM⟩ := side
  have hab : a ≠ b := by rintro rfl; rw [far_self] at hM; omega
  apply Rat.le_antisymm
  · rw [← hM]; exact up a b ha hb hab
  · cases q' : least [p, q, r] with
    | none => exact absurd (all_same (least_none q') _ ha _ hb) hab
    | some z =>
      obtain ⟨h1, h2, h3, h4, h5, h6, e⟩ := least_pair q'
      have hi : z.i < [p, q, r].length := by omega
      have ar : z.area * z.area = left p q r * left p q r := by
        obtain ⟨x, hx, hx2⟩ := prf_attained (l := [p, q, r]) (i := z.i) (j := z.j) hi
        obtain ⟨A0, A1, -⟩ := prf_area [p, q, r] z.i z.j
        rw [← h5] at hx2 A0 A1
        have b1 := A1 p mem.1
        have b2 := A1 q mem.2.1
        have b3 := A1 r mem.2.2
        have c : (z.i = 0 ∧ z.j = 1) ∨ (z.i = 0 ∧ z.j = 2) ∨ (z.i = 1 ∧ z.j = 2) := by simp at h2; omega
        have sq : ∀ u n : Int, u = n ∨ u = -n ∨ u = 0 → z.area * z.area = u * u → 0 ≤ z.area → n ≤ z.area → -n ≤ z.area → z.area * z.area = n * n := fun u n hu hz h0 hn hm => by
          rcases hu with rfl | rfl | rfl
          · exact hz
          · rw [Int.neg_mul_neg] at hz; exact hz
          · have : z.area = 0 := by have := Int.mul_eq_zero.1 (hz.trans (by simp)); omega
            have : n = 0 := by omega
            rw [this, hz]
        rcases c with ⟨c1, c2⟩ | ⟨c1, c2⟩ | ⟨c1, c2⟩
        · rw [c1, c2] at hx2 b1 b2 b3
          simp only [at_, List.getD_cons_zero, List.getD_cons_succ] at hx2 b1 b2 b3
          refine sq (left p q x) _ ?_ hx2 A0 b3.1 b3.2
          simp only [List.mem_cons, List.not_mem_nil, or_false] at hx
          rcases hx with rfl | rfl | rfl
          · exact .inr (.inr (left_self _ _))
          · exact .inr (.inr (left_end _ _))
          · exact .inl rfl
        · rw [c1, c2] at hx2 b1 b2 b3
          simp only [at_, List.getD_cons_zero, List.getD_cons_succ] at hx2 b1 b2 b3
          refine sq (left p r x) _ ?_ hx2 A0 (by omega) (by omega)
          simp only [List.mem_cons, List.not_mem_nil, or_false] at hx
          rcases hx with rfl | rfl | rfl
          · exact .inr (.inr (left_self _ _))
          · exact .inr (.inl t3)
          · exact .inr (.inr (left_end _ _))
        · rw [c1, c2] at hx2 b1 b2 b3
          simp only [at_, List.getD_cons_zero, List.getD_cons_succ] at hx2 b1 b2 b3
          refine sq (left q r x) _ ?_ hx2 A0 (by omega) (by omega)
          simp only [List.mem_cons, List.not_mem_nil, or_false] at hx
          rcases hx with rfl | rfl | rfl
          · exact .inl t1
          · exact .inr (.inr (left_self _ _))
          · exact .inr (.inr (left_end _ _))
      have fm : far (at_ [p, q, r] z.i) (at_ [p, q, r] z.j) ≤ max (max (far p q) (far q r)) (far r p) := by
        have c : (z.i = 0 ∧ z.j = 1) ∨ (z.i = 0 ∧ z.j = 2) ∨ (z.i = 1 ∧ z.j = 2) := by simp at h2; omega
        have fs := far_swap p r
        rcases c with ⟨c1, c2⟩ | ⟨c1, c2⟩ | ⟨c1, c2⟩ <;> rw [c1, c2] <;> simp only [at_, List.getD_cons_zero, List.getD_cons_succ] <;> omega
      rw [e, ← hM]
      have := (wq_le (n := left p q r) (m := z.area) hab h3).2 (by
        rw [ar, hM]; exact Int.mul_le_mul_of_nonneg_left fm (sq_nonneg _))
      exact this
end St
/- STRAIGHTNESS: lists of indices, and the first that is too wide: plain laws. -/
namespace St

/-- All ascending lists of indices below n that go on from b by m more, at least f. -/
def dfs (n : Nat) : Nat → List Nat → Nat → List (List Nat)
  | 0, b, _ => [b]
  | m + 1, b, f => (List.range' f (n - f)).flatMap fun i => dfs n m (b ++ [i]) (i + 1)
theorem range_cons {f n : Nat} (h : f < n) : List.range' f (n - f) = f :: List.range' (f + 1) (n - (f + 1)) := by
  obtain ⟨k, hk⟩ : ∃ k, n - f = k + 1 := ⟨n - f - 1, by omega⟩
  rw [hk, List.range'_succ, show n - (f + 1) = k by omega]
theorem range_nil {f n : Nat} (h : n ≤ f) : List.range' f (n - f) = [] := by rw [Nat.sub_eq_zero_of_le h]; rfl
/-- What may follow a list. -/
def nxt (b : List Nat) : Nat := match b.getLast? with
  | none => 0
  | some i => i + 1
def ext (n : Nat) (b : List Nat) : List (List Nat) := (List.range' (nxt b) (n - nxt b)).map fun i => b ++ [i]
def lst (n : Nat) : Nat → List (List Nat)
  | 0 => [[]]
  | k + 1 => (lst n k).flatMap (ext n)
theorem nxt_snoc (b : List Nat) (i : Nat) : nxt (b ++ [i]) = i + 1 := by unfold nxt; simp
theorem dfs_ext (n : Nat) : ∀ (m : Nat) (b : List Nat), (dfs n m b (nxt b)).flatMap (ext n) = dfs n (m + 1) b (nxt b)
  | 0, b => by
    simp only [dfs, List.flatMap_cons, List.flatMap_nil, List.append_nil, ext]
    exact List.map_eq_flatMap
  | m + 1, b => by
    rw [show dfs n (m + 1 + 1) b (nxt b) = (List.range' (nxt b) (n - nxt b)).flatMap fun i => dfs n (m + 1) (b ++ [i]) (i + 1) from rfl]
    rw [show dfs n (m + 1) b (nxt b) = (List.range' (nxt b) (n - nxt b)).flatMap fun i => dfs n m (b ++ [i]) (i + 1) from rfl]
    rw [List.flatMap_assoc]
    congr 1
    funext i
    have := dfs_ext n m (b ++ [i])
    rw [nxt_snoc] at this
    exact this
/-- Both ways to list the choices give the same. -/
theorem dfs_lst (n : Nat) : ∀ k, dfs n k [] 0 = lst n k
  | 0 => rfl
  | k + 1 => by
    have := dfs_ext n k []
    rw [show nxt [] = 0 from rfl, dfs_lst n k] at this
    exact this.symm
/-- What the choices are. -/
theorem mem_dfs (n : Nat) : ∀ (m : Nat) (b : List Nat) (f : Nat) (x : List Nat), x ∈ dfs n m b f ↔ ∃ t : List Nat, x = b ++ t ∧ t.length = m ∧ t.Pairwise (· < ·) ∧ ∀ i ∈ t, f ≤ i ∧ i < n
  | 0, b, f, x => by
    simp only [dfs, List.mem_singleton]
    constructor
    · rintro rfl; exact ⟨[], by simp⟩
    · rintro ⟨t, rfl, h, -⟩; rw [List.length_eq_zero_iff.1 h, List.append_nil]
  | m + 1, b, f, x => by
    simp only [dfs, List.mem_flatMap, List.mem_range'_1, mem_dfs n m]
    constructor
    · rintro ⟨i, hi, t, rfl, h1, h2, h3⟩
      refine ⟨i :: t, by simp, by simp [h1], ?_, fun j hj => ?_⟩
      · exact List.pairwise_cons.2 ⟨fun j hj => (h3 j hj).1, h2⟩
      · rcases List.mem_cons.1 hj with rfl | hj
        · omega
        · have := h3 j hj; omega
    · rintro ⟨t, rfl, h1, h2, h3⟩
      cases t with
      | nil => simp at h1
      | cons i t =>
        have hi := h3 i (by simp)
        obtain ⟨p1, p2⟩ := List.pairwise_cons.1 h2
        exact ⟨i, by omega, t, by simp, by simpa using h1, p2, fun j hj => ⟨p1 j hj, (h3 j (List.mem_cons_of_mem _ hj)).2⟩⟩
theorem mem_lst (n k : Nat) (x : List Nat) : x ∈ lst n k ↔ x.length = k ∧ x.Pairwise (· < ·) ∧ ∀ i ∈ x, i < n := by
  rw [← dfs_lst, mem_dfs]
  constructor
  · rintro ⟨t, rfl, h1, h2, h3⟩; simpa using ⟨h1, h2, fun i hi => (h3 i hi).2⟩
  · rintro ⟨h1, h2, h3⟩; exact ⟨x, by simp, h1, h2, fun i hi => ⟨Nat.zero_le _, h3 i hi⟩⟩
/-- The points of some indices. -/
def chosen (l : List Pt) (x : List Nat) : List Pt := x.map (at_ l)
/-- The width is at most a tolerance. -/
def keeps (l : List Pt) (t : Int) : Bool := decide (wid l ≤ ((t * t : Int) : Rat))
def firstW (l : List Pt) (t : Int) (xs : List (List Nat)) : Option (List Nat) := xs.find? fun x => !keeps (chosen l x) t
def levels (n : Nat) : Nat → Nat → List (List Nat)
  | _, 0 => []
  | k, m + 1 => lst n k ++ levels n (k + 1) m
/-- The first fewest points that are too wide. -/
def rej (l : List Pt) (t : Int) : Option (List Nat) := firstW l t (levels l.length 3 (l.length - 2))
theorem wid_two {l : List Pt} (h : l.length ≤ 2) : wid l = 0 := by
  cases q : least l with
  | none => unfold wid; rw [q]
  | some z =>
    obtain ⟨h1, h2, h3, h4, h5, h6, e⟩ := least_pair q
    have c1 : z.i = 0 := by omega
    have c2 : z.j = 1 := by omega
    obtain ⟨x, hx, hx2⟩ := prf_attained (l := l) (i := z.i) (j := z.j) (by omega)
    rw [← h5] at hx2
    obtain ⟨k, hk, rfl⟩ := mem_at hx
    have : z.area * z.area = 0 := by
      rw [hx2]
      have : k = z.i ∨ k = z.j := by omega
      rcases this with rfl | rfl
      · rw [left_self]; rfl
      · rw [left_end]; rfl
    have a0 : z.area = 0 := (Int.mul_eq_zero.1 this).elim id id
    have := wq_mul (n := z.area) h3
    rw [← e, a0] at this
    have hf := rat_pos (far_pos h3)
    have z0 : (((0 : Int) * 0 : Int) : Rat) = 0 := rfl
    rw [z0] at this
    rcases Rat.mul_eq_zero.1 this with q | q
    · exact q
    · rw [q] at hf; exact absurd hf Rat.lt_irrefl
theorem keeps_zero {l : List Pt} {t : Int} (h : wid l = 0) : keeps l t = true := by
  unfold keeps; rw [h, decide_eq_true_eq]
  have := Rat.intCast_le_intCast.2 (sq_nonneg t); simpa using this
theorem keeps_mono {l m : List Pt} {t : Int} (h : ∀ x ∈ m, x ∈ l) (hl : keeps l t = true) : keeps m t = true := by
  unfold keeps at *; rw [decide_eq_true_eq] at *
  exact Rat.le_trans (wid_mono h) hl
theorem chosen_mem {l : List Pt} {x : List Nat} (h : ∀ i ∈ x, i < l.length) : ∀ p ∈ chosen l x, p ∈ l := fun p hp => by
  obtain ⟨i, hi, rfl⟩ := List.mem_map.1 hp
  exact at_mem (h i hi)
theorem chosen_len (l : List Pt) (x : List Nat) : (chosen l x).length = x.length := by unfold chosen; simp
theorem mem_levels {n : Nat} : ∀ (m k : Nat) (x : List Nat), x ∈ levels n k m ↔ k ≤ x.length ∧ x.length < k + m ∧ x.Pairwise (· < ·) ∧ ∀ i ∈ x, i < n
  | 0, k, x => by simp only [levels, List.not_mem_nil, false_iff]; omega
  | m + 1, k, x => by
    simp only [levels, List.mem_append, mem_lst, mem_levels m]
    constructor
    · rintro (⟨h1, h2, h3⟩ | ⟨h1, h2, h3, h4⟩)
      · exact ⟨by omega, by omega, h2, h3⟩
      · exact ⟨by omega, by omega, h3, h4⟩
    · rintro ⟨h1, h2, h3, h4⟩
      by_cases e : x.length = k
      · exact .inl ⟨e, h3, h4⟩
      · exact .inr ⟨by omega, by omega, h3, h4⟩
/-- No wide points of fewer indices come before those that were found. -/
theorem find_levels {n : Nat} {f : List Nat → Bool} : ∀ (m k : Nat) (x : List Nat), (levels n k m).find? f = some x → ∀ y ∈ levels n k m, y.length < x.length → f y = false
  | 0, k, x, h => by simp [levels] at h
  | m + 1, k, x, h => fun y hy hl => by
    simp only [levels, List.find?_append] at h
    cases q : (lst n k).find? f with
    | some z =>
      rw [q] at h
      simp only [Option.some_or] at h
      obtain rfl : z = x := by simpa using h
      have hz := ((mem_lst n k z).1 (List.mem_of_find?_eq_some q)).1
      have := ((mem_levels (m + 1) k y).1 hy).1
      omega
    | none =>
      rw [q] at h
      simp only [Option.none_or] at h
      simp only [levels, List.mem_append] at hy
      rcases hy with hy | hy
      · have := List.find?_eq_none.1 q y hy; simpa using this
      · exact find_levels m (k + 1) x h y hy hl
/-- POINTS ARE REJECTED exactly if they are too wide; those that are, are too wide, but not without any one of them. -/
theorem rej_none {l : List Pt} {t : Int} : rej l t = none ↔ keeps l t = true := by
  unfold rej firstW
  rw [List.find?_eq_none]
  constructor
  · intro h
    by_cases hl : l.length ≤ 2
    · exact keeps_zero (wid_two hl)
    · have hm : List.range l.length ∈ levels l.length 3 (l.length - 2) := (mem_levels _ _ _).2 ⟨by simp; omega, by simp; omega, List.pairwise_lt_range, fun i hi => List.mem_range.1 hi⟩
      have := h _ hm
      have e : chosen l (List.range l.length) = l := by
        unfold chosen
        apply List.ext_getElem (by simp)
        intro i h1 h2
        simp only [List.getElem_map, List.getElem_range]
        exact at_get h2
      rw [e] at this
      simpa using this
  · intro h x hx
    have := keeps_mono (chosen_mem (l := l) (fun i hi => ((mem_levels _ _ _).1 hx).2.2.2 i hi)) h
    simp [this]
theorem rej_some {l : List Pt} {t : Int} {x : List Nat} (h : rej l t = some x) : 3 ≤ x.length ∧ x.length ≤ l.length ∧ x.Pairwise (· < ·) ∧ (∀ i ∈ x, i < l.length) ∧ keeps (chosen l x) t = false ∧ ∀ k, k < x.length → keeps (chosen l (x.eraseIdx k)) t = true := by
  unfold rej firstW at h
  obtain ⟨h1, h2, h3, h4⟩ := (mem_levels _ _ _).1 (List.mem_of_find?_eq_some h)
  have h5 := List.find?_some h
  refine ⟨h1, by omega, h3, h4, by simpa using h5, fun k hk => ?_⟩
  have hlen : (x.eraseIdx k).length = x.length - 1 := List.length_eraseIdx_of_lt hk
  by_cases c : x.length = 3
  · exact keeps_zero (wid_two (by rw [chosen_len, hlen]; omega))
  · have hsub := List.eraseIdx_sublist x k
    have hm : x.eraseIdx k ∈ levels l.length 3 (l.length - 2) := (mem_levels _ _ _).2 ⟨by omega, by omega, h3.sublist hsub, fun i hi => h4 i (hsub.subset hi)⟩
    have := find_levels _ _ _ h _ hm (by omega)
    simpa using this
end St
