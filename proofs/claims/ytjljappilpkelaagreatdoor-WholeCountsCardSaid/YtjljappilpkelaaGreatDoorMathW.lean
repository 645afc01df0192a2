/- PLAIN MATHEMATICS of magnitudes in words of nine digits, the least one first. -/
import Derived.Test.YtjljappilpkelaaGreatDoorMath
namespace Mt

/-- How many words a magnitude has. -/
def wlen (m : Nat) : Nat := if h : m = 0 then 0 else wlen (m / 1000000000) + 1
termination_by m
decreasing_by omega
theorem wlen_zero : wlen 0 = 0 := by rw [wlen, dif_pos rfl]
theorem wlen_pos {m : Nat} (h : m ≠ 0) : wlen m = wlen (m / 1000000000) + 1 := by rw [wlen, dif_neg h]
theorem wlen_le : ∀ (k m : Nat), wlen m ≤ k ↔ m < 1000000000 ^ k
  | 0, m => by
    by_cases h : m = 0
    · subst h; rw [wlen_zero]; simp
    · rw [wlen_pos h]; simp; omega
  | k + 1, m => by
    by_cases h : m = 0
    · subst h; rw [wlen_zero]; simp [Nat.pow_pos]
    · rw [wlen_pos h, Nat.pow_succ, ← Nat.div_lt_iff_lt_mul (by omega : 0 < 1000000000), ← wlen_le k]; omega
theorem wlen_eq_zero {m : Nat} : wlen m = 0 ↔ m = 0 := by
  have := wlen_le 0 m
  simp at this
  omega
theorem lt_wlen (m : Nat) : m < 1000000000 ^ wlen m := (wlen_le _ m).1 (Nat.le_refl _)
theorem wlen_mono {m n : Nat} (h : m ≤ n) : wlen m ≤ wlen n := (wlen_le _ m).2 (by have := lt_wlen n; omega)
theorem wpow_le {m : Nat} (h : m ≠ 0) : 1000000000 ^ (wlen m - 1) ≤ m := by
  have h1 : wlen m ≠ 0 := fun e => h (wlen_eq_zero.1 e)
  rcases Nat.lt_or_ge m (1000000000 ^ (wlen m - 1)) with h2 | h2
  · have := (wlen_le _ _).2 h2; omega
  · exact h2

/-- The number that words spell. -/
def wval (ws : List Int) : Int := ws.foldr (fun d a => d + 1000000000 * a) 0
theorem wval_cons (d : Int) (t : List Int) : wval (d :: t) = d + 1000000000 * wval t := rfl
theorem wval_nil : wval [] = 0 := rfl
def okW (ws : List Int) : Prop := ∀ d ∈ ws, 0 ≤ d ∧ d < 1000000000
theorem okW_cons {d : Int} {t : List Int} : okW (d :: t) ↔ (0 ≤ d ∧ d < 1000000000) ∧ okW t := by unfold okW; simp
theorem okW_set {ws : List Int} (h : okW ws) (i : Nat) {d : Int} (h0 : 0 ≤ d) (h1 : d < 1000000000) : okW (ws.set i d) := by
  intro x hx
  rcases List.mem_or_eq_of_mem_set hx with h2 | h2
  · exact h x h2
  · subst h2; exact ⟨h0, h1⟩
theorem okW_at {ws : List Int} (h : okW ws) {i : Nat} (hi : i < ws.length) : 0 ≤ ws[i] ∧ ws[i] < 1000000000 := h _ (List.getElem_mem hi)
theorem wval_bounds : ∀ {ws : List Int}, okW ws → 0 ≤ wval ws ∧ wval ws < 1000000000 ^ ws.length
  | [], _ => by simp [wval_nil]
  | d :: t, h => by
    rw [okW_cons] at h
    obtain ⟨a, b⟩ := wval_bounds h.2
    rw [wval_cons, List.length_cons, Int.pow_succ]
    omega
theorem wval_set : ∀ (ws : List Int) (i : Nat) (h : i < ws.length) (x : Int), wval (ws.set i x) = wval ws + (x - ws[i]) * 1000000000 ^ i
  | [], i, h, x => by simp at h
  | d :: t, 0, h, x => by simp only [List.set_cons_zero, wval_cons, List.getElem_cons_zero, Int.pow_zero]; omega
  | d :: t, i + 1, h, x => by
    have h' : i < t.length := by simpa using h
    simp only [List.set_cons_succ, wval_cons, List.getElem_cons_succ]
    rw [wval_set t i h' x, Int.pow_succ, Int.mul_add]
    have : 1000000000 * ((x - t[i]) * 1000000000 ^ i) = (x - t[i]) * (1000000000 ^ i * 1000000000) := by
      rw [Int.mul_left_comm, Int.mul_comm 1000000000 (1000000000 ^ i)]
    omega
theorem wval_zeros (k : Nat) : wval (List.replicate k 0) = 0 := by
  induction k with
  | zero => rfl
  | succ k ih => rw [List.replicate_succ, wval_cons, ih]; rfl
theorem wval_append (a b : List Int) : wval (a ++ b) = wval a + 1000000000 ^ a.length * wval b := by
  induction a with
  | nil => simp [wval_nil]
  | cons d t ih =>
    rw [List.cons_append, wval_cons, wval_cons, ih, List.length_cons, Int.pow_succ, Int.mul_add]
    have : 1000000000 * (1000000000 ^ t.length * wval b) = 1000000000 ^ t.length * 1000000000 * wval b := by
      rw [Int.mul_comm (1000000000 ^ t.length) 1000000000, Int.mul_assoc]
    omega
/-- The words of a magnitude: there are 232. -/
def wdsN : Nat → Nat → List Int
  | 0, _ => []
  | k + 1, m => ((m % 1000000000 : Nat) : Int) :: wdsN k (m / 1000000000)
@[irreducible] def wds (m : Nat) : List Int := wdsN 232 m
theorem wds_def (m : Nat) : wds m = wdsN 232 m := by unfold wds; rfl
theorem wdsN_length : ∀ (k m : Nat), (wdsN k m).length = k
  | 0, _ => rfl
  | k + 1, m => by simp [wdsN, wdsN_length k]
theorem wds_length (m : Nat) : (wds m).length = 232 := by rw [wds_def, wdsN_length]
theorem wdsN_ok : ∀ (k m : Nat), okW (wdsN k m)
  | 0, _ => by intro d hd; simp [wdsN] at hd
  | k + 1, m => by
    rw [wdsN, okW_cons]
    exact ⟨by omega, wdsN_ok k _⟩
theorem wds_ok (m : Nat) : okW (wds m) := by rw [wds_def]; exact wdsN_ok _ _
theorem wdsN_val : ∀ (k m : Nat), m < 1000000000 ^ k → wval (wdsN k m) = m
  | 0, m, h => by simp at h; subst h; rfl
  | k + 1, m, h => by
    rw [Nat.pow_succ, ← Nat.div_lt_iff_lt_mul (by omega : 0 < 1000000000)] at h
    rw [wdsN, wval_cons, wdsN_val k _ h]; omega
/-- The first magnitude that has no room. -/
@[irreducible] def wroom : Nat := 232
def wmax : Nat := 1000000000 ^ wroom
theorem wroom_eq : wroom = 232 := by unfold wroom; rfl
theorem wmax_le {m : Nat} : m < wmax ↔ wlen m ≤ 232 := by
  unfold wmax; rw [← wlen_le, wroom_eq]
theorem wds_val {m : Nat} (h : m < wmax) : wval (wds m) = m := by
  rw [wds_def]; exact wdsN_val _ _ ((wlen_le _ _).1 (wmax_le.1 h))
theorem words_unique : ∀ (ws : List Int), okW ws → ws = wdsN ws.length (wval ws).toNat
  | [], _ => rfl
  | d :: t, h => by
    rw [okW_cons] at h
    obtain ⟨a, b⟩ := wval_bounds h.2
    rw [List.length_cons, wdsN, wval_cons]
    have e1 : (d + 1000000000 * wval t).toNat % 1000000000 = d.toNat := by omega
    have e2 : (d + 1000000000 * wval t).toNat / 1000000000 = (wval t).toNat := by omega
    rw [e1, e2, ← words_unique t h.2]
    congr 1; omega
/-- Words that spell a magnitude are its words. -/
theorem words_are {ws : List Int} (hl : ws.length = 232) (h : okW ws) : ∃ m : Nat, wval ws = m ∧ m < wmax ∧ ws = wds m := by
  obtain ⟨a, b⟩ := wval_bounds h
  refine ⟨(wval ws).toNat, by omega, ?_, ?_⟩
  · rw [wmax_le, wlen_le]
    rw [hl] at b
    have : ((wval ws).toNat : Int) < ((1000000000 ^ 232 : Nat) : Int) := by
      rw [Int.natCast_pow]; omega
    omega
  · have := words_unique ws h
    rw [hl] at this
    rw [wds_def]; exact this
/-- Beyond place n there are no words but 0. -/
def zeroFrom (ws : List Int) (n : Nat) : Prop := ∀ j (h : j < ws.length), n ≤ j → ws[j] = 0
theorem zeroFrom_drop : ∀ {ws : List Int} {n : Nat}, zeroFrom ws n → ws.drop n = List.replicate (ws.length - n) 0 := by
  intro ws n h
  apply List.ext_getElem
  · simp
  · intro i h1 h2
    simp only [List.getElem_drop, List.getElem_replicate]
    exact h _ _ (by omega)
theorem zeroFrom_val {ws : List Int} {n : Nat} (h : zeroFrom ws n) : wval ws = wval (ws.take n) := by
  have := wval_append (ws.take n) (ws.drop n)
  rw [List.take_append_drop] at this
  rw [this, zeroFrom_drop h, wval_zeros]; simp
theorem zeroFrom_mono {ws : List Int} {n k : Nat} (h : zeroFrom ws n) (hk : n ≤ k) : zeroFrom ws k := fun j hj hn => h j hj (by omega)
theorem zeroFrom_set {ws : List Int} {n : Nat} (h : zeroFrom ws n) {i : Nat} (hi : i < n) (x : Int) : zeroFrom (ws.set i x) n := by
  intro j hj hn
  rw [List.getElem_set_ne (by omega)]
  exact h j (by simpa using hj) hn
theorem zeroFrom_pred {ws : List Int} {n : Nat} (h : zeroFrom ws (n + 1)) (hn : n < ws.length) (h0 : ws[n] = 0) : zeroFrom ws n := by
  intro j hj hnj
  by_cases e : j = n
  · subst e; exact h0
  · exact h j hj (by omega)
theorem wval_take_succ {ws : List Int} {n : Nat} (hn : n < ws.length) : wval (ws.take (n + 1)) = wval (ws.take n) + 1000000000 ^ n * ws[n] := by
  rw [List.take_succ_eq_append_getElem hn, wval_append, List.length_take, Nat.min_eq_left (by omega)]
  simp [wval_cons, wval_nil]
theorem okW_take {ws : List Int} (h : okW ws) (n : Nat) : okW (ws.take n) := fun d hd => h d (List.mem_of_mem_take hd)
theorem okW_drop {ws : List Int} (h : okW ws) (n : Nat) : okW (ws.drop n) := fun d hd => h d (List.mem_of_mem_drop hd)
/-- The last word that is not 0 says how many words there are. -/
theorem wlen_of {ws : List Int} {n m : Nat} (h : okW ws) (hz : zeroFrom ws n) (hn : n ≤ ws.length) (hm : wval ws = m) (hl : ∀ k (hk : k < ws.length), n = k + 1 → ws[k] ≠ 0) : wlen m = n := by
  have h1 := (wval_bounds (okW_take h n))
  rw [← zeroFrom_val hz, hm, List.length_take, Nat.min_eq_left hn] at h1
  have hle : wlen m ≤ n := by
    rw [wlen_le]
    have h2 := h1.2
    have : ((m : Nat) : Int) < ((1000000000 ^ n : Nat) : Int) := by rw [Int.natCast_pow]; exact h2
    omega
  rcases Nat.lt_or_ge (wlen m) n with hlt | hge
  · exfalso
    obtain ⟨k, rfl⟩ : ∃ k, n = k + 1 := ⟨n - 1, by omega⟩
    have hk : k < ws.length := by omega
    have hne := hl k hk rfl
    have hpos := (okW_at h hk).1
    have h2 : wlen m ≤ k := by omega
    rw [wlen_le] at h2
    have h3 := wval_take_succ hk
    rw [← zeroFrom_val hz, hm] at h3
    have h4 := (wval_bounds (okW_take h k)).1
    have h5 : (1000000000 : Int) ^ k * 1 ≤ 1000000000 ^ k * ws[k] := Int.mul_le_mul_of_nonneg_left (by omega) (Int.pow_nonneg (by omega))
    have h6 : ((m : Nat) : Int) < ((1000000000 ^ k : Nat) : Int) := by omega
    rw [Int.natCast_pow] at h6
    have : ((1000000000 : Nat) : Int) = 1000000000 := rfl
    rw [this] at h6
    omega
  · omega
theorem wds_zero {m : Nat} (h : m < wmax) : zeroFrom (wds m) (wlen m) := by
  intro j hj hn
  have hl := wds_length m
  have ho := wds_ok m
  have hlt := lt_wlen m
  rcases Int.lt_trichotomy ((wds m)[j]) 0 with h1 | h1 | h1
  · have := (okW_at ho hj).1; omega
  · exact h1
  · exfalso
    have h2 := wval_take_succ hj
    have h3 := wval_append ((wds m).take (j + 1)) ((wds m).drop (j + 1))
    rw [List.take_append_drop, wds_val h, h2] at h3
    have h4 := (wval_bounds (okW_take ho j)).1
    have h5 := (wval_bounds (okW_drop ho (j + 1))).1
    have h6 : (0 : Int) ≤ 1000000000 ^ ((wds m).take (j + 1)).length * wval ((wds m).drop (j + 1)) := Int.mul_nonneg (Int.pow_nonneg (by omega)) h5
    have h7 : (1000000000 : Int) ^ j * 1 ≤ 1000000000 ^ j * (wds m)[j] := Int.mul_le_mul_of_nonneg_left (by omega) (Int.pow_nonneg (by omega))
    have h8 : (1000000000 : Nat) ^ wlen m ≤ 1000000000 ^ j := Nat.pow_le_pow_right (by omega) hn
    have h9 : ((m : Nat) : Int) < ((1000000000 ^ j : Nat) : Int) := by omega
    rw [Int.natCast_pow, show ((1000000000 : Nat) : Int) = 1000000000 from rfl] at h9
    omega
end Mt
namespace Mt
theorem getD_in {l : List Int} {i : Nat} (h : i < l.length) : l.getD i 0 = l[i] := by simp [List.getD, h]
theorem getD_out {l : List Int} {i : Nat} (h : l.length ≤ i) : l.getD i 0 = 0 := by simp [List.getD, h]
/-- The words of Y up to place i, and the word at place i. -/
def wpre (Y i : Nat) : Int := wval ((wds Y).take i)
def wat (Y i : Nat) : Int := (wds Y).getD i 0
theorem wat_bd (Y i : Nat) : 0 ≤ wat Y i ∧ wat Y i < 1000000000 := by
  unfold wat
  by_cases h : i < (wds Y).length
  · rw [getD_in h]; exact okW_at (wds_ok Y) h
  · rw [getD_out (by omega)]; omega
theorem wat_get {Y i : Nat} (h : i < (wds Y).length) : (wds Y)[i] = wat Y i := by unfold wat; rw [getD_in h]
theorem wpre_zero (Y : Nat) : wpre Y 0 = 0 := by unfold wpre; rw [List.take_zero]; rfl
theorem wpre_succ (Y i : Nat) : wpre Y (i + 1) = wpre Y i + 1000000000 ^ i * wat Y i := by
  by_cases h : i < (wds Y).length
  · unfold wpre; rw [wval_take_succ h, wat_get h]
  · unfold wpre wat
    rw [List.take_of_length_le (by omega), List.take_of_length_le (by omega), getD_out (by omega)]; simp
theorem wpre_all {Y i : Nat} (hY : Y < wmax) (h : wlen Y ≤ i) : wpre Y i = Y := by
  have := zeroFrom_val (zeroFrom_mono (wds_zero hY) h)
  unfold wpre
  rw [← this, wds_val hY]
theorem wat_zero {Y i : Nat} (hY : Y < wmax) (h : wlen Y ≤ i) : wat Y i = 0 := by
  unfold wat
  by_cases hi : i < (wds Y).length
  · rw [getD_in hi]; exact wds_zero hY i hi h
  · rw [getD_out (by omega)]
/-- What holds of the words of x after i places of a multiple of y have been added. -/
def AddAt (X Y : Nat) (f : Int) (up : Nat) (ws : List Int) (i : Nat) (rest : Int) : Prop := wval ws + rest * 1000000000 ^ (i + up) = X + f * 1000000000 ^ up * wpre Y i
theorem add_start (X Y : Nat) (f : Int) (up : Nat) (hX : X < wmax) : AddAt X Y f up (wds X) 0 0 := by
  unfold AddAt; rw [wpre_zero, wds_val hX]; simp
theorem add_step {X Y : Nat} {f : Int} {up : Nat} {ws : List Int} {i : Nat} {rest : Int} (h : AddAt X Y f up ws i rest) (hi : i + up < ws.length) (v q d : Int) (hv : ws[i + up] = v)
    (hs : v + rest + f * wat Y i = q * 1000000000 + d) : AddAt X Y f up (ws.set (i + up) d) (i + 1) q := by
  unfold AddAt at h ⊢
  rw [wval_set ws _ hi, hv, wpre_succ, show i + 1 + up = (i + up) + 1 by omega, Int.pow_succ]
  have e1 : f * 1000000000 ^ up * (wpre Y i + 1000000000 ^ i * wat Y i) = f * 1000000000 ^ up * wpre Y i + f * wat Y i * 1000000000 ^ (i + up) := by
    rw [Int.mul_add, Int.pow_add]
    congr 1
    rw [Int.mul_assoc, Int.mul_assoc, Int.mul_left_comm (1000000000 ^ up) (1000000000 ^ i)]
    congr 1
    rw [Int.mul_comm (1000000000 ^ up), ← Int.mul_assoc, Int.mul_comm (1000000000 ^ i), Int.mul_assoc]
  rw [e1, ← Int.add_assoc, ← h]
  generalize (1000000000 : Int) ^ (i + up) = P at *
  have e2 : q * (P * 1000000000) = q * 1000000000 * P := by rw [Int.mul_comm P, ← Int.mul_assoc]
  rw [e2, Int.sub_mul]
  have e3 : (v + rest + f * wat Y i) * P = (q * 1000000000 + d) * P := by rw [hs]
  rw [Int.add_mul, Int.add_mul, Int.add_mul] at e3
  omega
theorem add_end {X Y : Nat} {f : Int} {up T : Nat} {ws : List Int} {i : Nat} {rest : Int} (h : AddAt X Y f up ws i rest) (hY : Y < wmax) (hi : wlen Y ≤ i) (hT : (X : Int) + f * 1000000000 ^ up * Y = T) :
    wval ws + rest * 1000000000 ^ (i + up) = T := by
  unfold AddAt at h
  rw [h, wpre_all hY hi, hT]
theorem add_room {ws : List Int} {rest : Int} {T j : Nat} (h : wval ws + rest * 1000000000 ^ j = T) (hl : ws.length = 232) (hok : okW ws) (hT : T < wmax) (hr : rest ≠ 0) : j < 232 := by
  rcases Nat.lt_or_ge j 232 with h1 | h1
  · exact h1
  · exfalso
    obtain ⟨a, b⟩ := wval_bounds hok
    rw [hl] at b
    have hT2 : (T : Int) < 1000000000 ^ 232 := by
      rw [wmax_le, wlen_le] at hT
      have : ((T : Nat) : Int) < ((1000000000 ^ 232 : Nat) : Int) := by omega
      rw [Int.natCast_pow] at this
      exact this
    obtain ⟨k, rfl⟩ : ∃ k, j = 232 + k := ⟨j - 232, by omega⟩
    have hk : (1 : Int) ≤ 1000000000 ^ k := by
      have : 0 < (1000000000 : Int) ^ k := Int.pow_pos (by omega)
      omega
    rw [Int.pow_add] at h
    generalize (1000000000 : Int) ^ 232 = P at *
    generalize (1000000000 : Int) ^ k = K at *
    have hP : 0 < P := by omega
    have hPK : P * 1 ≤ P * K := Int.mul_le_mul_of_nonneg_left hk (by omega)
    rcases Int.lt_or_lt_of_ne hr with h2 | h2
    · have : (-1) * (P * K) ≥ rest * (P * K) := Int.mul_le_mul_of_nonneg_right (by omega) (by omega)
      omega
    · have : 1 * (P * K) ≤ rest * (P * K) := Int.mul_le_mul_of_nonneg_right (by omega) (by omega)
      omega
/-- Go's division by the base, and the remainder that is not negative. -/
theorem base_div (S : Int) (h0 : -3000000000000000000 ≤ S) (h1 : S ≤ 3000000000000000000) : ∃ q : Int, S.tdiv 1000000000 = q ∧ -3000000000 ≤ q ∧ q ≤ 3000000000 ∧
    ((0 ≤ S - q * 1000000000 ∧ S - q * 1000000000 < 1000000000) ∨ (-1000000000 < S - q * 1000000000 ∧ S - q * 1000000000 < 0)) := by
  by_cases h : 0 ≤ S
  · refine ⟨S / 1000000000, Int.tdiv_eq_ediv_of_nonneg h, by omega, by omega, .inl (by omega)⟩
  · refine ⟨-((-S) / 1000000000), ?_, by omega, by omega, by omega⟩
    have e : S = -(-S) := by omega
    have := Int.neg_tdiv (-S) 1000000000
    rw [Int.neg_neg] at this
    rw [this, Int.tdiv_eq_ediv_of_nonneg (by omega)]
end Mt
namespace Mt
/-- The words of X from place k on. -/
def wsuf (X k : Nat) : Int := wval ((wds X).drop k)
theorem wsplit (X k : Nat) (hX : X < wmax) (hk : k ≤ 232) : (X : Int) = wpre X k + 1000000000 ^ k * wsuf X k := by
  have := wval_append ((wds X).take k) ((wds X).drop k)
  rw [List.take_append_drop, wds_val hX, List.length_take, wds_length, Nat.min_eq_left hk] at this
  exact this
theorem wpre_bd (X k : Nat) (hk : k ≤ 232) : 0 ≤ wpre X k ∧ wpre X k < 1000000000 ^ k := by
  have := wval_bounds (okW_take (wds_ok X) k)
  rw [List.length_take, wds_length, Nat.min_eq_left hk] at this
  exact this
theorem wsuf_bd (X k : Nat) : 0 ≤ wsuf X k := (wval_bounds (okW_drop (wds_ok X) k)).1
theorem wsuf_succ {X k : Nat} (hk : k < 232) : wsuf X k = wat X k + 1000000000 * wsuf X (k + 1) := by
  have h : k < (wds X).length := by rw [wds_length]; exact hk
  unfold wsuf
  rw [List.drop_eq_getElem_cons h, wval_cons, wat_get h]
theorem wsuf_zero {X k : Nat} (hX : X < wmax) (h : wlen X ≤ k) : wsuf X k = 0 := by
  unfold wsuf
  rw [zeroFrom_drop (zeroFrom_mono (wds_zero hX) h), wval_zeros]
/-- The highest place at which two magnitudes differ decides. -/
theorem high_lt {X Y k : Nat} (hX : X < wmax) (hY : Y < wmax) (hk : k < 232) (hs : wsuf X (k + 1) = wsuf Y (k + 1)) (hlt : wat X k < wat Y k) : X < Y := by
  have e1 := wsplit X k hX (by omega)
  have e2 := wsplit Y k hY (by omega)
  rw [wsuf_succ hk] at e1 e2
  rw [hs] at e1
  have b1 := wpre_bd X k (by omega)
  have b2 := wpre_bd Y k (by omega)
  generalize wsuf Y (k + 1) = Z at *
  generalize (1000000000 : Int) ^ k = P at *
  have : P * (wat X k + 1000000000 * Z) + P * 1 ≤ P * (wat Y k + 1000000000 * Z) := by
    rw [← Int.mul_add]; exact Int.mul_le_mul_of_nonneg_left (by omega) (by omega)
  omega
theorem high_eq {X Y k : Nat} (hk : k < 232) (hs : wsuf X (k + 1) = wsuf Y (k + 1)) (he : wat X k = wat Y k) : wsuf X k = wsuf Y k := by
  rw [wsuf_succ hk, wsuf_succ hk, hs, he]
theorem all_eq {X Y : Nat} (hX : X < wmax) (hY : Y < wmax) (hs : wsuf X 0 = wsuf Y 0) : X = Y := by
  have e1 := wsplit X 0 hX (by omega)
  have e2 := wsplit Y 0 hY (by omega)
  rw [wpre_zero, hs] at e1
  rw [wpre_zero] at e2
  omega
theorem wlen_lt {X Y : Nat} (h : wlen X < wlen Y) : X < Y := by
  rcases Nat.lt_or_ge X Y with h1 | h1
  · exact h1
  · have := wlen_mono h1; omega
end Mt
