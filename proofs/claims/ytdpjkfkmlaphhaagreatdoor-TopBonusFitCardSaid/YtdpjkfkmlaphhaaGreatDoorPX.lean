/- TARGETS AND CIRCLES: values, checks. -/
import Derived.Test.YtdpjkfkmlaphhaaGreatDoorPB
import Derived.BigRegion
import Derived.Deep.RegionHeld3
import Derived.Test.YtdpjkfkmlaphhaaGreatDoorQA
import Derived.Test.YtdpjkfkmlaphhaaGreatDoorPM
import Derived.Test.YtdpjkfkmlaphhaaGreatDoorPO
namespace Go.Proofs.Wk
open Go.RowKit Mt Po

structure Tg where
  x : Int
  y : Int
  lo : Int
  hi : Int
  tol : Int
  mat : Int
  pin : Bool
structure Ci where
  x : Int
  y : Int
  s : Int
abbrev tgC (t : Tg) : Array Value := #[.int .i64 t.x, .int .i64 t.y, .int .i64 t.lo, .int .i64 t.hi, .int .i64 t.tol, .int .i64 t.mat, .bool t.pin]
abbrev tgV (t : Tg) : Value := .agg #[.int .i64 t.x, .int .i64 t.y, .int .i64 t.lo, .int .i64 t.hi, .int .i64 t.tol, .int .i64 t.mat, .bool t.pin]
abbrev ciV (c : Ci) : Value := .agg #[.int .i64 c.x, .int .i64 c.y, .int .i64 c.s]
def szK (n : Int) : Bool := decide (1 ≤ n ∧ n ≤ 100000)
def tgG (lo hi tol mat : Int) (pin : Bool) : Int := if hi < lo then 9 else if tol < 0 ∨ 100000 < tol ∨ (pin = false ∧ lo ≤ tol) then 2 else if mat < 0 ∨ 2 < mat then 1 else 0
def tgF (b0 b1 b2 : Bool) (lo hi tol mat : Int) (pin : Bool) : Int := if (b0 && b1 && b2) = false then 2 else tgG lo hi tol mat pin
def tgE (t : Tg) : Int := tgF (inC t.x && inC t.y) (szK t.lo) (szK t.hi) t.lo t.hi t.tol t.mat t.pin
def ciF (b0 b1 : Bool) : Int := if (b0 && b1) = false then 2 else 0
def ciE (c : Ci) : Int := ciF (inC c.x && inC c.y) (szK c.s)
structure TgR (t : Tg) : Prop where
  x : -100000 ≤ t.x ∧ t.x ≤ 100000
  y : -100000 ≤ t.y ∧ t.y ≤ 100000
  lo : 1 ≤ t.lo ∧ t.lo ≤ 100000
  hi : 1 ≤ t.hi ∧ t.hi ≤ 100000
  le : t.lo ≤ t.hi
  tol : 0 ≤ t.tol ∧ t.tol ≤ 100000
  pin : t.pin = false → t.tol < t.lo
  mat : 0 ≤ t.mat ∧ t.mat ≤ 2
theorem TgR.of {t : Tg} (h : tgE t = 0) : TgR t := by
  unfold tgE tgF at h
  split at h
  · omega
  rename_i hb
  simp only [Bool.and_eq_false_iff, not_or, Bool.not_eq_false, inC, szK, decide_eq_true_eq] at hb
  obtain ⟨⟨⟨b1, b2⟩, b3⟩, b4⟩ := hb
  unfold tgG at h
  split at h
  · omega
  split at h
  · omega
  split at h
  · omega
  rename_i h1 h2 h3
  refine ⟨b1, b2, b3, b4, by omega, by omega, fun hp => ?_, by omega⟩
  exact Int.not_le.1 fun q => h2 (Or.inr (Or.inr ⟨hp, q⟩))
structure CiR (c : Ci) : Prop where
  x : -100000 ≤ c.x ∧ c.x ≤ 100000
  y : -100000 ≤ c.y ∧ c.y ≤ 100000
  s : 1 ≤ c.s ∧ c.s ≤ 100000
theorem CiR.of {c : Ci} (h : ciE c = 0) : CiR c := by
  unfold ciE ciF at h
  split at h
  · omega
  rename_i hb
  simp only [Bool.and_eq_false_iff, not_or, Bool.not_eq_false, inC, szK, decide_eq_true_eq] at hb
  exact ⟨hb.1.1, hb.1.2, hb.2⟩
theorem c7row {w : World} {b : Nat} {u0 u1 u2 u3 u4 u5 u6 : Value} {T : TypeId} {fr : Nat × Nat} (h : w.heap[b]? = some (.cells #[u0, u1, u2, u3, u4, u5, u6] T fr)) :
    w.cell? ⟨b, 0, none⟩ = some u0 ∧ w.cell? ⟨b, 1, none⟩ = some u1 ∧ w.cell? ⟨b, 2, none⟩ = some u2 ∧ w.cell? ⟨b, 3, none⟩ = some u3 ∧ w.cell? ⟨b, 4, none⟩ = some u4 ∧ w.cell? ⟨b, 5, none⟩ = some u5 ∧ w.cell? ⟨b, 6, none⟩ = some u6 := by
  refine ⟨?_, ?_, ?_, ?_, ?_, ?_, ?_⟩ <;> (rw [cell_of_row _ _ _ _ _ _ h]; rfl)
theorem c8row {w : World} {b : Nat} {u0 u1 u2 u3 u4 u5 u6 u7 : Value} {T : TypeId} {fr : Nat × Nat} (h : w.heap[b]? = some (.cells #[u0, u1, u2, u3, u4, u5, u6, u7] T fr)) :
    w.cell? ⟨b, 0, none⟩ = some u0 ∧ w.cell? ⟨b, 1, none⟩ = some u1 ∧ w.cell? ⟨b, 2, none⟩ = some u2 ∧ w.cell? ⟨b, 3, none⟩ = some u3 ∧ w.cell? ⟨b, 4, none⟩ = some u4 ∧ w.cell? ⟨b, 5, none⟩ = some u5 ∧ w.cell? ⟨b, 6, none⟩ = some u6 ∧ w.cell? ⟨b, 7, none⟩ = some u7 := by
  refine ⟨?_, ?_, ?_, ?_, ?_, ?_, ?_, ?_⟩ <;> (rw [cell_of_row _ _ _ _ _ _ h]; rfl)
theorem bin_c (n : Int) (w : World) : Calls Tryz.prog 111 #[.int .i64 n] w (Pur w (.bool (inC n))) := by
  unfold inC
  rcases (by omega : n < -100000 ∨ (-100000 ≤ n ∧ n ≤ 100000) ∨ 100000 < n) with h | ⟨h, h'⟩ | h
  · rw [decide_eq_false (by omega)]
    go_enter Tryz.func111, Tryz.ntmps111; go_wp2; go_ret; refine ⟨ret_bool ?_, rfl⟩; first | rfl | (simp; done) | (simp; omega)
  · rw [decide_eq_true (by omega)]
    go_enter Tryz.func111, Tryz.ntmps111; go_wp2; go_ret; refine ⟨ret_bool ?_, rfl⟩; first | rfl | (simp; done) | (simp; omega)
  · rw [decide_eq_false (by omega)]
    go_enter Tryz.func111, Tryz.ntmps111; go_wp2; go_ret; refine ⟨ret_bool ?_, rfl⟩; first | rfl | (simp; done) | (simp; omega)
theorem bsize_c (n : Int) (w : World) : Calls Tryz.prog 112 #[.int .i64 n] w (Pur w (.bool (szK n))) := by
  unfold szK
  rcases (by omega : n < 1 ∨ (1 ≤ n ∧ n ≤ 100000) ∨ 100000 < n) with h | ⟨h, h'⟩ | h
  · rw [decide_eq_false (by omega)]
    go_enter Tryz.func112, Tryz.ntmps112; go_wp2; go_ret; refine ⟨ret_bool ?_, rfl⟩; first | rfl | (simp; done) | (simp; omega)
  · rw [decide_eq_true (by omega)]
    go_enter Tryz.func112, Tryz.ntmps112; go_wp2; go_ret; refine ⟨ret_bool ?_, rfl⟩; first | rfl | (simp; done) | (simp; omega)
  · rw [decide_eq_false (by omega)]
    go_enter Tryz.func112, Tryz.ntmps112; go_wp2; go_ret; refine ⟨ret_bool ?_, rfl⟩; first | rfl | (simp; done) | (simp; omega)
theorem rsize44_c (n : Int) (w : World) : Calls Tryz.prog 54 #[.int .i64 n] w (Pur w (.bool (szK n))) := by
  unfold szK
  rcases (by omega : n < 1 ∨ (1 ≤ n ∧ n ≤ 100000) ∨ 100000 < n) with h | ⟨h, h'⟩ | h
  · rw [decide_eq_false (by omega)]
    go_enter Tryz.func54, Tryz.ntmps54; go_wp2; go_ret; refine ⟨ret_bool ?_, rfl⟩; first | rfl | (simp; done) | (simp; omega)
  · rw [decide_eq_true (by omega)]
    go_enter Tryz.func54, Tryz.ntmps54; go_wp2; go_ret; refine ⟨ret_bool ?_, rfl⟩; first | rfl | (simp; done) | (simp; omega)
  · rw [decide_eq_false (by omega)]
    go_enter Tryz.func54, Tryz.ntmps54; go_wp2; go_ret; refine ⟨ret_bool ?_, rfl⟩; first | rfl | (simp; done) | (simp; omega)
set_option maxRecDepth 100000 in
set_option maxHeartbeats 1000000 in
theorem rRightT_p (x y : Int) (w : World) : Calls Tryz.prog 53 #[.agg #[.int .i64 x, .int .i64 y]] w (Ret w (.bool (inC x && inC y))) := by
  have HX := Lib.hid (fun W => rin_c x W)
  have HY := Lib.hid (fun W => rin_c y W)
  have hb := below_al w (.cells #[.int .i64 x, .int .i64 y] 54)
  generalize inC x = bx at *
  generalize inC y = by_ at *
  cases bx with
  | false =>
    go_enter Tryz.func53, Tryz.ntmps53
    go_wp2_with fail
    ((with_reducible refine (HX.out _).mono ?_); rintro e w' ⟨rfl, rfl⟩)
    go_wp2
    go_ret
    exact ⟨rfl, hb⟩
  | true =>
    go_enter Tryz.func53, Tryz.ntmps53
    go_wp2_with fail
    ((with_reducible refine (HX.out _).mono ?_); rintro e w' ⟨rfl, rfl⟩)
    go_wp2_with fail
    ((with_reducible refine (HY.out _).mono ?_); rintro e w' ⟨rfl, rfl⟩)
    go_wp2
    go_ret
    exact ⟨ret_bool (by simp), hb⟩
set_option maxRecDepth 100000 in
set_option maxHeartbeats 4000000 in
theorem rTg_c (t : Tg) (w : World) : Calls Tryz.prog 16 #[tgV t] w (Ret w (.int .i64 (tgE t))) := by
  obtain ⟨x, y, lo, hi, tol, mat, pin⟩ := t
  have HP := Lib.hid (fun W => rRightT_p x y W)
  have HL := Lib.hid (fun W => rsize44_c lo W)
  have HH := Lib.hid (fun W => rsize44_c hi W)
  have hal := below_al w (.cells #[.int .i64 x, .int .i64 y, .int .i64 lo, .int .i64 hi, .int .i64 tol, .int .i64 mat, .bool pin] 56)
  have hn := heap_alloc_new w (.cells #[.int .i64 x, .int .i64 y, .int .i64 lo, .int .i64 hi, .int .i64 tol, .int .i64 mat, .bool pin] 56)
  obtain ⟨E, hE⟩ : ∃ E, tgE ⟨x, y, lo, hi, tol, mat, pin⟩ = E := ⟨_, rfl⟩
  rw [hE]
  unfold tgE at hE
  simp only at hE
  generalize (inC x && inC y) = b0 at *
  generalize szK lo = b1 at *
  generalize szK hi = b2 at *
  go_enter Tryz.func16, Tryz.ntmps16
  go_wp2_with fail
  ((with_reducible refine (HP.out _).mono ?_); rintro e w1 ⟨rfl, hb1⟩)
  have hr := keepD hn hb1
  have hw1 := hal.nx hb1
  obtain ⟨c0, c1, c2, c3, c4, c5, c6⟩ := c7row hr
  clear hal hn hb1 hr HP
  cases b0 with
  | false =>
    obtain rfl : (2 : Int) = E := hE
    go_wp2
    go_ret
    exact ⟨rfl, hw1⟩
  | true =>
  go_wp2_with fail
  ((with_reducible refine (HL.out _).mono ?_); rintro e w' ⟨rfl, rfl⟩)
  clear HL
  cases b1 with
  | false =>
    obtain rfl : (2 : Int) = E := hE
    go_wp2
    go_ret
    exact ⟨rfl, hw1⟩
  | true =>
  go_wp2_with fail
  ((with_reducible refine (HH.out _).mono ?_); rintro e w' ⟨rfl, rfl⟩)
  clear HH
  cases b2 with
  | false =>
    obtain rfl : (2 : Int) = E := hE
    go_wp2
    go_ret
    exact ⟨rfl, hw1⟩
  | true =>
  replace hE : tgG lo hi tol mat pin = E := hE
  unfold tgG at hE
  by_cases q1 : hi < lo
  · rw [if_pos q1] at hE
    subst hE
    go_wp2
    go_ret
    exact ⟨rfl, hw1⟩
  rw [if_neg q1] at hE
  replace q1 : lo ≤ hi := by omega
  by_cases q2 : tol < 0
  · rw [if_pos (Or.inl q2)] at hE
    subst hE
    go_wp2
    go_ret
    exact ⟨rfl, hw1⟩
  by_cases q3 : 100000 < tol
  · rw [if_pos (Or.inr (Or.inl q3))] at hE
    subst hE
    replace q2 : 0 ≤ tol := by omega
    go_wp2
    go_ret
    exact ⟨rfl, hw1⟩
  replace q2 : 0 ≤ tol := by omega
  replace q3 : tol ≤ 100000 := by omega
  have hm : ∀ (_ : pin = true ∨ tol < lo), (if mat < 0 ∨ 2 < mat then (1 : Int) else 0) = E := fun h => by
    rw [if_neg (by rcases h with h | h <;> simp_all <;> omega)] at hE
    exact hE
  cases pin with
  | false =>
    by_cases q4 : lo ≤ tol
    · rw [if_pos (Or.inr (Or.inr ⟨rfl, q4⟩))] at hE
      subst hE
      clear hm
      go_wp2
      go_ret
      exact ⟨rfl, hw1⟩
    replace q4 : tol < lo := by omega
    replace hm := hm (Or.inr q4)
    clear hE
    rcases (by omega : mat < 0 ∨ 2 < mat ∨ (0 ≤ mat ∧ mat ≤ 2)) with h | h | ⟨h, h'⟩
    · rw [if_pos (Or.inl h)] at hm
      subst hm
      go_wp2
      go_ret
      exact ⟨rfl, hw1⟩
    · rw [if_pos (Or.inr h)] at hm
      subst hm
      have h0 : 0 ≤ mat := by omega
      go_wp2
      go_ret
      exact ⟨rfl, hw1⟩
    · rw [if_neg (by omega)] at hm
      subst hm
      go_wp2
      go_ret
      exact ⟨rfl, hw1⟩
  | true =>
    replace hm := hm (Or.inl rfl)
    clear hE
    rcases (by omega : mat < 0 ∨ 2 < mat ∨ (0 ≤ mat ∧ mat ≤ 2)) with h | h | ⟨h, h'⟩
    · rw [if_pos (Or.inl h)] at hm
      subst hm
      go_wp2
      go_ret
      exact ⟨rfl, hw1⟩
    · rw [if_pos (Or.inr h)] at hm
      subst hm
      have h0 : 0 ≤ mat := by omega
      go_wp2
      go_ret
      exact ⟨rfl, hw1⟩
    · rw [if_neg (by omega)] at hm
      subst hm
      go_wp2
      go_ret
      exact ⟨rfl, hw1⟩
set_option maxRecDepth 100000 in
set_option maxHeartbeats 2000000 in
theorem rCi_c (c : Ci) (w : World) : Calls Tryz.prog 26 #[ciV c] w (Ret w (.int .i64 (ciE c))) := by
  obtain ⟨x, y, s⟩ := c
  have HP := Lib.hid (fun W => rRightT_p x y W)
  have HL := Lib.hid (fun W => rsize44_c s W)
  have hal := below_al w (.cells #[.int .i64 x, .int .i64 y, .int .i64 s] 80)
  have hn := heap_alloc_new w (.cells #[.int .i64 x, .int .i64 y, .int .i64 s] 80)
  obtain ⟨E, hE⟩ : ∃ E, ciE ⟨x, y, s⟩ = E := ⟨_, rfl⟩
  rw [hE]
  unfold ciE at hE
  simp only at hE
  generalize (inC x && inC y) = b0 at *
  generalize szK s = b1 at *
  go_enter Tryz.func26, Tryz.ntmps26
  go_wp2_with fail
  ((with_reducible refine (HP.out _).mono ?_); rintro e w1 ⟨rfl, hb1⟩)
  have hr := keepD hn hb1
  have hw1 := hal.nx hb1
  obtain ⟨c0, c1, c2⟩ := c3row hr
  clear hal hn hb1 hr HP
  cases b0 with
  | false =>
    obtain rfl : (2 : Int) = E := hE
    go_wp2
    go_ret
    exact ⟨rfl, hw1⟩
  | true =>
  go_wp2_with fail
  ((with_reducible refine (HL.out _).mono ?_); rintro e w' ⟨rfl, rfl⟩)
  clear HL
  cases b1 with
  | false =>
    obtain rfl : (2 : Int) = E := hE
    go_wp2
    go_ret
    exact ⟨rfl, hw1⟩
  | true =>
    obtain rfl : (0 : Int) = E := hE
    go_wp2
    go_ret
    exact ⟨rfl, hw1⟩
def insT (t : Tg) (n : Int) : Bool := decide (t.lo ≤ n ∧ n ≤ t.hi)
set_option maxHeartbeats 2000000 in
theorem rInside_c (t : Tg) (n : Int) (w : World) : Calls Tryz.prog 28 #[tgV t, .int .i64 n] w (Ret w (.bool (insT t n))) := by
  obtain ⟨x, y, lo, hi, tol, mat, pin⟩ := t
  have hb := below_al w (.cells #[.int .i64 x, .int .i64 y, .int .i64 lo, .int .i64 hi, .int .i64 tol, .int .i64 mat, .bool pin] 56)
  unfold insT
  simp only
  rcases (by omega : n < lo ∨ (lo ≤ n ∧ n ≤ hi) ∨ (lo ≤ n ∧ hi < n)) with h | ⟨h, h'⟩ | ⟨h, h'⟩
  · rw [decide_eq_false (by omega)]
    go_enter Tryz.func28, Tryz.ntmps28; go_wp2; go_ret; refine ⟨ret_bool ?_, hb⟩; first | rfl | (simp; done) | (simp; omega)
  · rw [decide_eq_true (by omega)]
    go_enter Tryz.func28, Tryz.ntmps28; go_wp2; go_ret; refine ⟨ret_bool ?_, hb⟩; first | rfl | (simp; done) | (simp; omega)
  · rw [decide_eq_false (by omega)]
    go_enter Tryz.func28, Tryz.ntmps28; go_wp2; go_ret; refine ⟨ret_bool ?_, hb⟩; first | rfl | (simp; done) | (simp; omega)
set_option maxHeartbeats 2000000 in
theorem bwithin_c (t : Tg) (n : Int) (w : World) : Calls Tryz.prog 60 #[tgV t, .int .i64 n] w (Ret w (.bool (insT t n))) := by
  obtain ⟨x, y, lo, hi, tol, mat, pin⟩ := t
  have hb := below_al w (.cells #[.int .i64 x, .int .i64 y, .int .i64 lo, .int .i64 hi, .int .i64 tol, .int .i64 mat, .bool pin] 56)
  unfold insT
  simp only
  rcases (by omega : n < lo ∨ (lo ≤ n ∧ n ≤ hi) ∨ (lo ≤ n ∧ hi < n)) with h | ⟨h, h'⟩ | ⟨h, h'⟩
  · rw [decide_eq_false (by omega)]
    go_enter Tryz.func60, Tryz.ntmps60; go_wp2; go_ret; refine ⟨ret_bool ?_, hb⟩; first | rfl | (simp; done) | (simp; omega)
  · rw [decide_eq_true (by omega)]
    go_enter Tryz.func60, Tryz.ntmps60; go_wp2; go_ret; refine ⟨ret_bool ?_, hb⟩; first | rfl | (simp; done) | (simp; omega)
  · rw [decide_eq_false (by omega)]
    go_enter Tryz.func60, Tryz.ntmps60; go_wp2; go_ret; refine ⟨ret_bool ?_, hb⟩; first | rfl | (simp; done) | (simp; omega)
set_option maxRecDepth 100000 in
set_option maxHeartbeats 4000000 in
theorem bCheck_ok (t : Tg) (R : TgR t) (w : World) : Calls Tryz.prog 59 #[tgV t] w (Ret w (.int .i64 0)) := by
  obtain ⟨x, y, lo, hi, tol, mat, pin⟩ := t
  obtain ⟨r0, r1, r2, r3, r4, ⟨r5, r6⟩, r7, ⟨r8, r9⟩⟩ := R
  simp only at r0 r1 r2 r3 r4 r5 r6 r7 r8 r9
  have HX : Hid (∀ W, Calls Tryz.prog 111 #[.int .i64 x] W (Pur W (.bool true))) := Lib.hid (fun W => by have := bin_c x W; rwa [show inC x = true by unfold inC; exact decide_eq_true r0] at this)
  have HY : Hid (∀ W, Calls Tryz.prog 111 #[.int .i64 y] W (Pur W (.bool true))) := Lib.hid (fun W => by have := bin_c y W; rwa [show inC y = true by unfold inC; exact decide_eq_true r1] at this)
  have HL : Hid (∀ W, Calls Tryz.prog 112 #[.int .i64 lo] W (Pur W (.bool true))) := Lib.hid (fun W => by have := bsize_c lo W; rwa [show szK lo = true by unfold szK; exact decide_eq_true r2] at this)
  have HH : Hid (∀ W, Calls Tryz.prog 112 #[.int .i64 hi] W (Pur W (.bool true))) := Lib.hid (fun W => by have := bsize_c hi W; rwa [show szK hi = true by unfold szK; exact decide_eq_true r3] at this)
  have hb := below_al w (.cells #[.int .i64 x, .int .i64 y, .int .i64 lo, .int .i64 hi, .int .i64 tol, .int .i64 mat, .bool pin] 56)
  clear r0 r1 r2 r3
  have r10 : mat < 3 := by omega
  cases pin with
  | false =>
    have r11 := r7 rfl
    clear r7
    go_enter Tryz.func59, Tryz.ntmps59
    go_wp2_with fail
    ((with_reducible refine (HX.out _).mono ?_); rintro e w' ⟨rfl, rfl⟩)
    go_wp2_with fail
    ((with_reducible refine (HY.out _).mono ?_); rintro e w' ⟨rfl, rfl⟩)
    go_wp2_with fail
    ((with_reducible refine (HL.out _).mono ?_); rintro e w' ⟨rfl, rfl⟩)
    go_wp2_with fail
    ((with_reducible refine (HH.out _).mono ?_); rintro e w' ⟨rfl, rfl⟩)
    go_wp2
    go_ret
    exact ⟨rfl, hb⟩
  | true =>
    clear r7
    go_enter Tryz.func59, Tryz.ntmps59
    go_wp2_with fail
    ((with_reducible refine (HX.out _).mono ?_); rintro e w' ⟨rfl, rfl⟩)
    go_wp2_with fail
    ((with_reducible refine (HY.out _).mono ?_); rintro e w' ⟨rfl, rfl⟩)
    go_wp2_with fail
    ((with_reducible refine (HL.out _).mono ?_); rintro e w' ⟨rfl, rfl⟩)
    go_wp2_with fail
    ((with_reducible refine (HH.out _).mono ?_); rintro e w' ⟨rfl, rfl⟩)
    go_wp2
    go_ret
    exact ⟨rfl, hb⟩
set_option maxRecDepth 100000 in
set_option maxHeartbeats 2000000 in
theorem ring_ok (c : Ci) (R : CiR c) (w : World) : Calls Tryz.prog 118 #[ciV c] w (Ret w (.int .i64 0)) := by
  obtain ⟨x, y, s⟩ := c
  obtain ⟨r0, r1, r2⟩ := R
  simp only at r0 r1 r2
  have HX : Hid (∀ W, Calls Tryz.prog 111 #[.int .i64 x] W (Pur W (.bool true))) := Lib.hid (fun W => by have := bin_c x W; rwa [show inC x = true by unfold inC; exact decide_eq_true r0] at this)
  have HY : Hid (∀ W, Calls Tryz.prog 111 #[.int .i64 y] W (Pur W (.bool true))) := Lib.hid (fun W => by have := bin_c y W; rwa [show inC y = true by unfold inC; exact decide_eq_true r1] at this)
  have HL : Hid (∀ W, Calls Tryz.prog 112 #[.int .i64 s] W (Pur W (.bool true))) := Lib.hid (fun W => by have := bsize_c s W; rwa [show szK s = true by unfold szK; exact decide_eq_true r2] at this)
  have hb := below_al w (.cells #[.int .i64 x, .int .i64 y, .int .i64 s] 80)
  clear r0 r1 r2
  go_enter Tryz.func118, Tryz.ntmps118
  go_wp2_with fail
  ((with_reducible refine (HX.out _).mono ?_); rintro e w' ⟨rfl, rfl⟩)
  go_wp2_with fail
  ((with_reducible refine (HY.out _).mono ?_); rintro e w' ⟨rfl, rfl⟩)
  go_wp2_with fail
  ((with_reducible refine (HL.out _).mono ?_); rintro e w' ⟨rfl, rfl⟩)
  go_wp2
  go_ret
  exact ⟨rfl, hb⟩
end Go.Proofs.Wk
/- BONUS: the table of signs; conditions; bonuses and virtual sizes at right targets. -/
namespace Go.Proofs.Wk
open Go.RowKit Mt Po

/-- The table of signs in memory. -/
structure SgW (w : World) : Prop where
  a0 : w.cell? ⟨0, 0, none⟩ = some (.int .i64 (-1))
  a1 : w.cell? ⟨0, 1, none⟩ = some (.int .i64 (-1))
  a2 : w.cell? ⟨0, 2, none⟩ = some (.int .i64 1)
  b0 : w.cell? ⟨0, 3, none⟩ = some (.int .i64 1)
  b1 : w.cell? ⟨0, 4, none⟩ = some (.int .i64 1)
  b2 : w.cell? ⟨0, 5, none⟩ = some (.int .i64 (-1))
theorem SgW.lt {w : World} (h : SgW w) : 0 < w.heap.size := World.block_lt_of_cell? w _ h.a0
theorem SgW.later {w w' : World} (h : SgW w) (hb : Below w.heap.size w w') : SgW w' := by
  have k : ∀ i, w'.cell? ⟨0, i, none⟩ = w.cell? ⟨0, i, none⟩ := fun i => hb.cell (p := ⟨0, i, none⟩) h.lt
  exact ⟨(k 0).trans h.a0, (k 1).trans h.a1, (k 2).trans h.a2, (k 3).trans h.b0, (k 4).trans h.b1, (k 5).trans h.b2⟩
abbrev cdV (t : Tg) (s : Int) : Value := .agg #[.int .i64 t.x, .int .i64 t.y, .int .i64 t.lo, .int .i64 t.hi, .int .i64 t.tol, .int .i64 t.mat, .bool t.pin, .int .i64 s]
def sideT (t : Tg) : Int := if t.pin = true then (if t.mat = 2 then -1 else 1) else (if t.mat = 2 then 1 else -1)
def endT (t : Tg) (s : Int) : Int := if s < 0 then t.lo else t.hi
def extT (t : Tg) (n : Int) : Int := if t.mat = 0 then 0 else if sideT t < 0 then n - t.lo else t.hi - n
def virT (t : Tg) : Int := if sideT t < 0 then t.lo - t.tol else t.hi + t.tol
theorem side_is (t : Tg) : sideT t = 1 ∨ sideT t = -1 := by unfold sideT; split <;> split <;> simp
theorem bxx (w : World) (o1 o2 : Obj) : Below w.heap.size w ((w.alloc o1).alloc o2) := (below_al w o1).nx (below_al _ o2)
theorem nww (w : World) (o1 : Obj) (c : Array Value) (t : TypeId) : ((w.alloc o1).alloc (.cells c t)).heap[w.heap.size + 1]? = some (.cells c t (0, 0)) := by
  have := heap_alloc_new (w.alloc o1) (.cells c t)
  rwa [World.size_alloc] at this
theorem s8row {w : World} {g : Nat} {u0 u1 u2 u3 u4 u5 u6 u7 v0 v1 v2 v3 v4 v5 v6 v7 : Value} {T : TypeId} (h : w.heap[g]? = some (.cells #[u0, u1, u2, u3, u4, u5, u6, u7] T (0, 0))) :
    ((((((((w.setCell ⟨g, 0, none⟩ v0).setCell ⟨g, 1, none⟩ v1).setCell ⟨g, 2, none⟩ v2).setCell ⟨g, 3, none⟩ v3).setCell ⟨g, 4, none⟩ v4).setCell ⟨g, 5, none⟩ v5).setCell ⟨g, 6, none⟩ v6).setCell ⟨g, 7, none⟩ v7).drew.heap[g]? = some (.cells #[v0, v1, v2, v3, v4, v5, v6, v7] T (0, 0)) := by
  have h0 : (w.setCell ⟨g, 0, none⟩ v0).heap[g]? = some (.cells #[v0, u1, u2, u3, u4, u5, u6, u7] T (0, 0)) := heap_setCell_same _ g 0 _ _ v0 h
  have h1 : ((w.setCell ⟨g, 0, none⟩ v0).setCell ⟨g, 1, none⟩ v1).heap[g]? = some (.cells #[v0, v1, u2, u3, u4, u5, u6, u7] T (0, 0)) := heap_setCell_same _ g 1 _ _ v1 h0
  have h2 : (((w.setCell ⟨g, 0, none⟩ v0).setCell ⟨g, 1, none⟩ v1).setCell ⟨g, 2, none⟩ v2).heap[g]? = some (.cells #[v0, v1, v2, u3, u4, u5, u6, u7] T (0, 0)) := heap_setCell_same _ g 2 _ _ v2 h1
  have h3 : ((((w.setCell ⟨g, 0, none⟩ v0).setCell ⟨g, 1, none⟩ v1).setCell ⟨g, 2, none⟩ v2).setCell ⟨g, 3, none⟩ v3).heap[g]? = some (.cells #[v0, v1, v2, v3, u4, u5, u6, u7] T (0, 0)) := heap_setCell_same _ g 3 _ _ v3 h2
  have h4 : (((((w.setCell ⟨g, 0, none⟩ v0).setCell ⟨g, 1, none⟩ v1).setCell ⟨g, 2, none⟩ v2).setCell ⟨g, 3, none⟩ v3).setCell ⟨g, 4, none⟩ v4).heap[g]? = some (.cells #[v0, v1, v2, v3, v4, u5, u6, u7] T (0, 0)) := heap_setCell_same _ g 4 _ _ v4 h3
  have h5 : ((((((w.setCell ⟨g, 0, none⟩ v0).setCell ⟨g, 1, none⟩ v1).setCell ⟨g, 2, none⟩ v2).setCell ⟨g, 3, none⟩ v3).setCell ⟨g, 4, none⟩ v4).setCell ⟨g, 5, none⟩ v5).heap[g]? = some (.cells #[v0, v1, v2, v3, v4, v5, u6, u7] T (0, 0)) := heap_setCell_same _ g 5 _ _ v5 h4
  have h6 : (((((((w.setCell ⟨g, 0, none⟩ v0).setCell ⟨g, 1, none⟩ v1).setCell ⟨g, 2, none⟩ v2).setCell ⟨g, 3, none⟩ v3).setCell ⟨g, 4, none⟩ v4).setCell ⟨g, 5, none⟩ v5).setCell ⟨g, 6, none⟩ v6).heap[g]? = some (.cells #[v0, v1, v2, v3, v4, v5, v6, u7] T (0, 0)) := heap_setCell_same _ g 6 _ _ v6 h5
  have h7 : ((((((((w.setCell ⟨g, 0, none⟩ v0).setCell ⟨g, 1, none⟩ v1).setCell ⟨g, 2, none⟩ v2).setCell ⟨g, 3, none⟩ v3).setCell ⟨g, 4, none⟩ v4).setCell ⟨g, 5, none⟩ v5).setCell ⟨g, 6, none⟩ v6).setCell ⟨g, 7, none⟩ v7).heap[g]? = some (.cells #[v0, v1, v2, v3, v4, v5, v6, v7] T (0, 0)) := heap_setCell_same _ g 7 _ _ v7 h6
  rw [show ∀ X : World, X.drew.heap = X.heap from fun _ => rfl]
  exact h7
set_option maxHeartbeats 4000000 in
theorem b8row {w W : World} {B g : Nat} (h : Below B w W) (hg : B ≤ g) (v0 v1 v2 v3 v4 v5 v6 v7 : Value) :
    Below B w ((((((((W.setCell ⟨g, 0, none⟩ v0).setCell ⟨g, 1, none⟩ v1).setCell ⟨g, 2, none⟩ v2).setCell ⟨g, 3, none⟩ v3).setCell ⟨g, 4, none⟩ v4).setCell ⟨g, 5, none⟩ v5).setCell ⟨g, 6, none⟩ v6).setCell ⟨g, 7, none⟩ v7).drew := by
  have h0 : Below B w (W.setCell ⟨g, 0, none⟩ v0) := h.cel (p := ⟨g, 0, none⟩) hg v0
  have h1 : Below B w ((W.setCell ⟨g, 0, none⟩ v0).setCell ⟨g, 1, none⟩ v1) := h0.cel (p := ⟨g, 1, none⟩) hg v1
  have h2 : Below B w (((W.setCell ⟨g, 0, none⟩ v0).setCell ⟨g, 1, none⟩ v1).setCell ⟨g, 2, none⟩ v2) := h1.cel (p := ⟨g, 2, none⟩) hg v2
  have h3 : Below B w ((((W.setCell ⟨g, 0, none⟩ v0).setCell ⟨g, 1, none⟩ v1).setCell ⟨g, 2, none⟩ v2).setCell ⟨g, 3, none⟩ v3) := h2.cel (p := ⟨g, 3, none⟩) hg v3
  have h4 : Below B w (((((W.setCell ⟨g, 0, none⟩ v0).setCell ⟨g, 1, none⟩ v1).setCell ⟨g, 2, none⟩ v2).setCell ⟨g, 3, none⟩ v3).setCell ⟨g, 4, none⟩ v4) := h3.cel (p := ⟨g, 4, none⟩) hg v4
  have h5 : Below B w ((((((W.setCell ⟨g, 0, none⟩ v0).setCell ⟨g, 1, none⟩ v1).setCell ⟨g, 2, none⟩ v2).setCell ⟨g, 3, none⟩ v3).setCell ⟨g, 4, none⟩ v4).setCell ⟨g, 5, none⟩ v5) := h4.cel (p := ⟨g, 5, none⟩) hg v5
  have h6 : Below B w (((((((W.setCell ⟨g, 0, none⟩ v0).setCell ⟨g, 1, none⟩ v1).setCell ⟨g, 2, none⟩ v2).setCell ⟨g, 3, none⟩ v3).setCell ⟨g, 4, none⟩ v4).setCell ⟨g, 5, none⟩ v5).setCell ⟨g, 6, none⟩ v6) := h5.cel (p := ⟨g, 6, none⟩) hg v6
  have h7 : Below B w ((((((((W.setCell ⟨g, 0, none⟩ v0).setCell ⟨g, 1, none⟩ v1).setCell ⟨g, 2, none⟩ v2).setCell ⟨g, 3, none⟩ v3).setCell ⟨g, 4, none⟩ v4).setCell ⟨g, 5, none⟩ v5).setCell ⟨g, 6, none⟩ v6).setCell ⟨g, 7, none⟩ v7) := h6.cel (p := ⟨g, 7, none⟩) hg v7
  exact h7.drew
set_option maxRecDepth 100000 in
set_option maxHeartbeats 4000000 in
theorem of_ok (t : Tg) (R : TgR t) (w : World) (h : SgW w) : Calls Tryz.prog 61 #[tgV t] w (Ret w (cdV t (sideT t))) := by
  obtain ⟨x, y, lo, hi, tol, mat, pin⟩ := t
  have hm := R.mat
  simp only at hm
  have hB := bxx w (.cells #[.int .i64 x, .int .i64 y, .int .i64 lo, .int .i64 hi, .int .i64 tol, .int .i64 mat, .bool pin] 56) (.cells #[.int .i64 0, .int .i64 0, .int .i64 0, .int .i64 0, .int .i64 0, .int .i64 0, .bool false, .int .i64 0] 125)
  have hR := nww w (.cells #[.int .i64 x, .int .i64 y, .int .i64 lo, .int .i64 hi, .int .i64 tol, .int .i64 mat, .bool pin] 56) #[.int .i64 0, .int .i64 0, .int .i64 0, .int .i64 0, .int .i64 0, .int .i64 0, .bool false, .int .i64 0] 125
  have hA := keepD (heap_alloc_new w (.cells #[.int .i64 x, .int .i64 y, .int .i64 lo, .int .i64 hi, .int .i64 tol, .int .i64 mat, .bool pin] 56)) (below_al _ (.cells #[.int .i64 0, .int .i64 0, .int .i64 0, .int .i64 0, .int .i64 0, .int .i64 0, .bool false, .int .i64 0] 125))
  obtain ⟨g0, g1, g2, g3, g4, g5⟩ := h.later hB
  obtain ⟨c0, c1, c2, c3, c4, c5, c6⟩ := c7row hA
  obtain ⟨d0, d1, d2, d3, d4, d5, d6, d7⟩ := c8row hR
  have hf := fun k => free_row hR k
  have HR := Lib.hid hR
  have HB := Lib.hid hB
  clear R h hA hB hR
  cases pin with
  | false =>
    rcases (by omega : mat = 0 ∨ mat = 1 ∨ mat = 2) with rfl | rfl | rfl
    · show Calls _ _ _ _ (Ret w (cdV ⟨x, y, lo, hi, tol, 0, false⟩ (-1)))
      go_enter Tryz.func61, Tryz.ntmps61
      go_upto_region 3 with fail
      generalize (w.alloc (.cells #[.int .i64 x, .int .i64 y, .int .i64 lo, .int .i64 hi, .int .i64 tol, .int .i64 0, .bool false] 56)).alloc (.cells #[.int .i64 0, .int .i64 0, .int .i64 0, .int .i64 0, .int .i64 0, .int .i64 0, .bool false, .int .i64 0] 125) = W0 at *
      go_region
      go_wp2
      refine bodyPost_ret (results_cell_row rfl _ _ (w.heap.size + 1) 125 #[.int .i64 x, .int .i64 y, .int .i64 lo, .int .i64 hi, .int .i64 tol, .int .i64 0, .bool false, .int .i64 (-1)] (0, 0) _ (by kernel_rfl) (s8row HR.out) Tryz.underlying125 rfl (by kernel_rfl)) rfl ?_
      exact ⟨rfl, b8row HB.out (Nat.le_succ _) _ _ _ _ _ _ _ _⟩
    · show Calls _ _ _ _ (Ret w (cdV ⟨x, y, lo, hi, tol, 1, false⟩ (-1)))
      go_enter Tryz.func61, Tryz.ntmps61
      go_upto_region 3 with fail
      generalize (w.alloc (.cells #[.int .i64 x, .int .i64 y, .int .i64 lo, .int .i64 hi, .int .i64 tol, .int .i64 1, .bool false] 56)).alloc (.cells #[.int .i64 0, .int .i64 0, .int .i64 0, .int .i64 0, .int .i64 0, .int .i64 0, .bool false, .int .i64 0] 125) = W0 at *
      go_region
      go_wp2
      refine bodyPost_ret (results_cell_row rfl _ _ (w.heap.size + 1) 125 #[.int .i64 x, .int .i64 y, .int .i64 lo, .int .i64 hi, .int .i64 tol, .int .i64 1, .bool false, .int .i64 (-1)] (0, 0) _ (by kernel_rfl) (s8row HR.out) Tryz.underlying125 rfl (by kernel_rfl)) rfl ?_
      exact ⟨rfl, b8row HB.out (Nat.le_succ _) _ _ _ _ _ _ _ _⟩
    · show Calls _ _ _ _ (Ret w (cdV ⟨x, y, lo, hi, tol, 2, false⟩ 1))
      go_enter Tryz.func61, Tryz.ntmps61
      go_upto_region 3 with fail
      generalize (w.alloc (.cells #[.int .i64 x, .int .i64 y, .int .i64 lo, .int .i64 hi, .int .i64 tol, .int .i64 2, .bool false] 56)).alloc (.cells #[.int .i64 0, .int .i64 0, .int .i64 0, .int .i64 0, .int .i64 0, .int .i64 0, .bool false, .int .i64 0] 125) = W0 at *
      go_region
      go_wp2
      refine bodyPost_ret (results_cell_row rfl _ _ (w.heap.size + 1) 125 #[.int .i64 x, .int .i64 y, .int .i64 lo, .int .i64 hi, .int .i64 tol, .int .i64 2, .bool false, .int .i64 1] (0, 0) _ (by kernel_rfl) (s8row HR.out) Tryz.underlying125 rfl (by kernel_rfl)) rfl ?_
      exact ⟨rfl, b8row HB.out (Nat.le_succ _) _ _ _ _ _ _ _ _⟩
  | true =>
    rcases (by omega : mat = 0 ∨ mat = 1 ∨ mat = 2) with rfl | rfl | rfl
    · show Calls _ _ _ _ (Ret w (cdV ⟨x, y, lo, hi, tol, 0, true⟩ 1))
      go_enter Tryz.func61, Tryz.ntmps61
      go_upto_region 2 with fail
      generalize (w.alloc (.cells #[.int .i64 x, .int .i64 y, .int .i64 lo, .int .i64 hi, .int .i64 tol, .int .i64 0, .bool true] 56)).alloc (.cells #[.int .i64 0, .int .i64 0, .int .i64 0, .int .i64 0, .int .i64 0, .int .i64 0, .bool false, .int .i64 0] 125) = W0 at *
      go_region
      go_wp2
      refine bodyPost_ret (results_cell_row rfl _ _ (w.heap.size + 1) 125 #[.int .i64 x, .int .i64 y, .int .i64 lo, .int .i64 hi, .int .i64 tol, .int .i64 0, .bool true, .int .i64 1] (0, 0) _ (by kernel_rfl) (s8row HR.out) Tryz.underlying125 rfl (by kernel_rfl)) rfl ?_
      exact ⟨rfl, b8row HB.out (Nat.le_succ _) _ _ _ _ _ _ _ _⟩
    · show Calls _ _ _ _ (Ret w (cdV ⟨x, y, lo, hi, tol, 1, true⟩ 1))
      go_enter Tryz.func61, Tryz.ntmps61
      go_upto_region 2 with fail
      generalize (w.alloc (.cells #[.int .i64 x, .int .i64 y, .int .i64 lo, .int .i64 hi, .int .i64 tol, .int .i64 1, .bool true] 56)).alloc (.cells #[.int .i64 0, .int .i64 0, .int .i64 0, .int .i64 0, .int .i64 0, .int .i64 0, .bool false, .int .i64 0] 125) = W0 at *
      go_region
      go_wp2
      refine bodyPost_ret (results_cell_row rfl _ _ (w.heap.size + 1) 125 #[.int .i64 x, .int .i64 y, .int .i64 lo, .int .i64 hi, .int .i64 tol, .int .i64 1, .bool true, .int .i64 1] (0, 0) _ (by kernel_rfl) (s8row HR.out) Tryz.underlying125 rfl (by kernel_rfl)) rfl ?_
      exact ⟨rfl, b8row HB.out (Nat.le_succ _) _ _ _ _ _ _ _ _⟩
    · show Calls _ _ _ _ (Ret w (cdV ⟨x, y, lo, hi, tol, 2, true⟩ (-1)))
      go_enter Tryz.func61, Tryz.ntmps61
      go_upto_region 2 with fail
      generalize (w.alloc (.cells #[.int .i64 x, .int .i64 y, .int .i64 lo, .int .i64 hi, .int .i64 tol, .int .i64 2, .bool true] 56)).alloc (.cells #[.int .i64 0, .int .i64 0, .int .i64 0, .int .i64 0, .int .i64 0, .int .i64 0, .bool false, .int .i64 0] 125) = W0 at *
      go_region
      go_wp2
      refine bodyPost_ret (results_cell_row rfl _ _ (w.heap.size + 1) 125 #[.int .i64 x, .int .i64 y, .int .i64 lo, .int .i64 hi, .int .i64 tol, .int .i64 2, .bool true, .int .i64 (-1)] (0, 0) _ (by kernel_rfl) (s8row HR.out) Tryz.underlying125 rfl (by kernel_rfl)) rfl ?_
      exact ⟨rfl, b8row HB.out (Nat.le_succ _) _ _ _ _ _ _ _ _⟩
set_option maxHeartbeats 2000000 in
theorem end_ok (t : Tg) (s k : Int) (hk : k = 1 ∨ k = -1) (w : World) : Calls Tryz.prog 63 #[cdV t s, .int .i64 k] w (Ret w (.int .i64 (endT t k))) := by
  obtain ⟨x, y, lo, hi, tol, mat, pin⟩ := t
  have hb := below_al w (.cells #[.int .i64 x, .int .i64 y, .int .i64 lo, .int .i64 hi, .int .i64 tol, .int .i64 mat, .bool pin, .int .i64 s] 125)
  rcases hk with rfl | rfl
  · show Calls _ _ _ _ (Ret w (.int .i64 hi))
    go_enter Tryz.func63, Tryz.ntmps63
    go_wp2
    go_ret
    exact ⟨rfl, hb⟩
  · show Calls _ _ _ _ (Ret w (.int .i64 lo))
    go_enter Tryz.func63, Tryz.ntmps63
    go_wp2
    go_ret
    exact ⟨rfl, hb⟩
set_option maxRecDepth 100000 in
set_option maxHeartbeats 4000000 in
theorem extra_ok (t : Tg) (R : TgR t) (n : Int) (h0 : -100000 ≤ n) (h1 : n ≤ 100000) (w : World) : Calls Tryz.prog 62 #[cdV t (sideT t), .int .i64 n] w (Ret w (.int .i64 (extT t n))) := by
  have hs := side_is t
  have hE : extT t n = if t.mat = 0 then 0 else if sideT t < 0 then n - t.lo else t.hi - n := rfl
  have HEN := Lib.hid (fun W => end_ok t (sideT t) (sideT t) hs W)
  generalize extT t n = E at *
  generalize sideT t = s at *
  have r1 := R.lo
  have r2 := R.hi
  obtain ⟨x, y, lo, hi, tol, mat, pin⟩ := t
  simp only at hE r1 r2
  clear R
  by_cases q : mat = 0
  · rw [if_pos q] at hE
    subst hE q
    have hb := below_al w (.cells #[.int .i64 x, .int .i64 y, .int .i64 lo, .int .i64 hi, .int .i64 tol, .int .i64 0, .bool pin, .int .i64 s] 125)
    clear HEN hs h0 h1 r1 r2
    go_enter Tryz.func62, Tryz.ntmps62
    go_wp2
    go_ret
    exact ⟨rfl, hb⟩
  · rw [if_neg q] at hE
    have q1 : decide (mat = 0) = false := decide_eq_false q
    have q2 : (mat == 0) = false := by simpa using q
    have HB := Lib.hid (below_al w (.cells #[.int .i64 x, .int .i64 y, .int .i64 lo, .int .i64 hi, .int .i64 tol, .int .i64 mat, .bool pin, .int .i64 s] 125))
    have HN := Lib.hid (heap_alloc_new w (.cells #[.int .i64 x, .int .i64 y, .int .i64 lo, .int .i64 hi, .int .i64 tol, .int .i64 mat, .bool pin, .int .i64 s] 125))
    rcases hs with rfl | rfl
    · obtain rfl : E = hi - n := by rw [hE]; simp
      replace HEN : Hid (∀ W, Calls Tryz.prog 63 #[.agg #[.int .i64 x, .int .i64 y, .int .i64 lo, .int .i64 hi, .int .i64 tol, .int .i64 mat, .bool pin, .int .i64 1], .int .i64 1] W (Ret W (.int .i64 hi))) := HEN
      have e1 : IntKind.i64.wrap (hi - n) = hi - n := IntWalk.i64_in _ (by omega)
      have e2 : IntKind.i64.wrap (1 * (hi - n)) = 1 * (hi - n) := IntWalk.i64_in _ (by omega)
      have e3 : IntKind.i64.wrap (-(hi - n)) = -(hi - n) := IntWalk.i64_in _ (by omega)
      clear hE r1 r2
      go_enter Tryz.func62, Tryz.ntmps62
      go_upto_region 3 with fail
      clear q q1 q2
      generalize w.alloc (.cells #[.int .i64 x, .int .i64 y, .int .i64 lo, .int .i64 hi, .int .i64 tol, .int .i64 mat, .bool pin, .int .i64 1] 125) = W0 at *
      have HALL := Lib.hid (fun (W : World) (h : Below W0.heap.size W0 W) => by
        obtain ⟨d0, d1, d2, d3, d4, d5, d6, d7⟩ := c8row (keepD HN.out h)
        exact (⟨d0, d1, d2, d3, d4, d5, d6, d7, h⟩ : W.cell? ⟨w.heap.size, 0, none⟩ = some (.int .i64 x) ∧ W.cell? ⟨w.heap.size, 1, none⟩ = some (.int .i64 y) ∧ W.cell? ⟨w.heap.size, 2, none⟩ = some (.int .i64 lo) ∧ W.cell? ⟨w.heap.size, 3, none⟩ = some (.int .i64 hi) ∧ W.cell? ⟨w.heap.size, 4, none⟩ = some (.int .i64 tol) ∧ W.cell? ⟨w.heap.size, 5, none⟩ = some (.int .i64 mat) ∧ W.cell? ⟨w.heap.size, 6, none⟩ = some (.bool pin) ∧ W.cell? ⟨w.heap.size, 7, none⟩ = some (.int .i64 1) ∧ Below W0.heap.size W0 W))
      have hB : Below W0.heap.size W0 W0 := Below.refl _ _
      go_region_held3 (fun W => W.cell? ⟨w.heap.size, 0, none⟩ = some (.int .i64 x) ∧ W.cell? ⟨w.heap.size, 1, none⟩ = some (.int .i64 y) ∧ W.cell? ⟨w.heap.size, 2, none⟩ = some (.int .i64 lo) ∧ W.cell? ⟨w.heap.size, 3, none⟩ = some (.int .i64 hi) ∧ W.cell? ⟨w.heap.size, 4, none⟩ = some (.int .i64 tol) ∧ W.cell? ⟨w.heap.size, 5, none⟩ = some (.int .i64 mat) ∧ W.cell? ⟨w.heap.size, 6, none⟩ = some (.bool pin) ∧ W.cell? ⟨w.heap.size, 7, none⟩ = some (.int .i64 1) ∧ Below W0.heap.size W0 W)
        (first | with_reducible exact HALL.out _ B1 | with_reducible exact HALL.out _ hB | with_reducible exact HALL.out _ hB.drew)
        (first
          | (go_at_call 63; (with_reducible refine (HEN.out _).mono ?_); rintro e v1 ⟨rfl, hb1⟩; (first | (with_reducible have B1 := hB.drew.nx hb1) | (with_reducible have B1 := hB.nx hb1)))
          | fail)
      all_goals
        have hw := HB.out.nx B1
        go_wp2
        go_ret
        exact ⟨ret_int (by first | rfl | omega | (simp; done) | (simp; omega)), hw⟩
    · obtain rfl : E = n - lo := by rw [hE]; simp
      replace HEN : Hid (∀ W, Calls Tryz.prog 63 #[.agg #[.int .i64 x, .int .i64 y, .int .i64 lo, .int .i64 hi, .int .i64 tol, .int .i64 mat, .bool pin, .int .i64 (-1)], .int .i64 (-1)] W (Ret W (.int .i64 lo))) := HEN
      have e1 : IntKind.i64.wrap (lo - n) = lo - n := IntWalk.i64_in _ (by omega)
      have e2 : IntKind.i64.wrap ((-1) * (lo - n)) = (-1) * (lo - n) := IntWalk.i64_in _ (by omega)
      have e3 : IntKind.i64.wrap (-(lo - n)) = -(lo - n) := IntWalk.i64_in _ (by omega)
      clear hE r1 r2
      go_enter Tryz.func62, Tryz.ntmps62
      go_upto_region 3 with fail
      clear q q1 q2
      generalize w.alloc (.cells #[.int .i64 x, .int .i64 y, .int .i64 lo, .int .i64 hi, .int .i64 tol, .int .i64 mat, .bool pin, .int .i64 (-1)] 125) = W0 at *
      have HALL := Lib.hid (fun (W : World) (h : Below W0.heap.size W0 W) => by
        obtain ⟨d0, d1, d2, d3, d4, d5, d6, d7⟩ := c8row (keepD HN.out h)
        exact (⟨d0, d1, d2, d3, d4, d5, d6, d7, h⟩ : W.cell? ⟨w.heap.size, 0, none⟩ = some (.int .i64 x) ∧ W.cell? ⟨w.heap.size, 1, none⟩ = some (.int .i64 y) ∧ W.cell? ⟨w.heap.size, 2, none⟩ = some (.int .i64 lo) ∧ W.cell? ⟨w.heap.size, 3, none⟩ = some (.int .i64 hi) ∧ W.cell? ⟨w.heap.size, 4, none⟩ = some (.int .i64 tol) ∧ W.cell? ⟨w.heap.size, 5, none⟩ = some (.int .i64 mat) ∧ W.cell? ⟨w.heap.size, 6, none⟩ = some (.bool pin) ∧ W.cell? ⟨w.heap.size, 7, none⟩ = some (.int .i64 (-1)) ∧ Below W0.heap.size W0 W))
      have hB : Below W0.heap.size W0 W0 := Below.refl _ _
      go_region_held3 (fun W => W.cell? ⟨w.heap.size, 0, none⟩ = some (.int .i64 x) ∧ W.cell? ⟨w.heap.size, 1, none⟩ = some (.int .i64 y) ∧ W.cell? ⟨w.heap.size, 2, none⟩ = some (.int .i64 lo) ∧ W.cell? ⟨w.heap.size, 3, none⟩ = some (.int .i64 hi) ∧ W.cell? ⟨w.heap.size, 4, none⟩ = some (.int .i64 tol) ∧ W.cell? ⟨w.heap.size, 5, none⟩ = some (.int .i64 mat) ∧ W.cell? ⟨w.heap.size, 6, none⟩ = some (.bool pin) ∧ W.cell? ⟨w.heap.size, 7, none⟩ = some (.int .i64 (-1)) ∧ Below W0.heap.size W0 W)
        (first | with_reducible exact HALL.out _ B1 | with_reducible exact HALL.out _ hB | with_reducible exact HALL.out _ hB.drew)
        (first
          | (go_at_call 63; (with_reducible refine (HEN.out _).mono ?_); rintro e v1 ⟨rfl, hb1⟩; (first | (with_reducible have B1 := hB.drew.nx hb1) | (with_reducible have B1 := hB.nx hb1)))
          | fail)
      all_goals
        have hw := HB.out.nx B1
        go_wp2
        go_ret
        exact ⟨ret_int (by first | rfl | omega | (simp; done) | (simp; omega)), hw⟩
end Go.Proofs.Wk
/- BONUS: bonuses, virtual sizes, circles that keep their targets. -/
namespace Go.Proofs.Wk
open Go.RowKit Mt Po

theorem sqb {a A : Int} (h0 : -A ≤ a) (h1 : a ≤ A) : 0 ≤ a * a ∧ a * a ≤ A * A := by
  rcases Int.le_total 0 a with h | h
  · exact ⟨Int.mul_nonneg h h, Int.mul_le_mul h1 h1 h (by omega)⟩
  · have e : a * a = (-a) * (-a) := by rw [Int.neg_mul_neg]
    rw [e]
    exact ⟨Int.mul_nonneg (by omega) (by omega), Int.mul_le_mul (by omega) (by omega) (by omega) (by omega)⟩
theorem extT_bd {t : Tg} (R : TgR t) {n : Int} (h : -100000 ≤ n ∧ n ≤ 100000) : -200000 ≤ extT t n ∧ extT t n ≤ 200000 := by
  have r1 := R.lo
  have r2 := R.hi
  unfold extT
  split
  · omega
  split <;> omega
theorem insT_in {t : Tg} {n : Int} (h : insT t n = true) : t.lo ≤ n ∧ n ≤ t.hi := by unfold insT at h; simpa using h
set_option maxRecDepth 100000 in
set_option maxHeartbeats 4000000 in
theorem Bonus_ok (t : Tg) (R : TgR t) (n : Int) (hi : insT t n = true) (w : World) (h : SgW w) : Calls Tryz.prog 20 #[tgV t, .int .i64 n] w (Ret w (.tuple #[.int .i64 (extT t n), .int .i64 0])) := by
  have hn := insT_in hi
  have HC := Lib.hid (fun W => bCheck_ok t R W)
  have HW : Hid (∀ W, Calls Tryz.prog 60 #[tgV t, .int .i64 n] W (Ret W (.bool true))) := Lib.hid (fun W => by have := bwithin_c t n W; rwa [hi] at this)
  have HO := Lib.hid (fun W (k : Below w.heap.size w W) => of_ok t R W (h.later k))
  have HX := Lib.hid (fun W => extra_ok t R n (by have := R.lo; omega) (by have := R.hi; omega) W)
  have hal := below_al w (.cells (tgC t) 56)
  have hr := heap_alloc_new w (.cells (tgC t) 56)
  generalize extT t n = E at *
  generalize sideT t = s at *
  obtain ⟨x, y, lo, hi2, tol, mat, pin⟩ := t
  clear R h hi hn
  go_enter Tryz.func20, Tryz.ntmps20
  go_wp2_with fail
  ((with_reducible refine (HC.out _).mono ?_); rintro e w1 ⟨rfl, hb1⟩)
  have R1 := Lib.hid (keepD hr hb1)
  have B1 := Lib.hid (hal.nx hb1)
  obtain ⟨c0, c1, c2, c3, c4, c5, c6⟩ := c7row R1.out
  clear hb1 hal hr HC
  go_wp2_with fail
  ((with_reducible refine (HW.out _).mono ?_); rintro e w2 ⟨rfl, hb2⟩)
  have R2 := Lib.hid (keepD R1.out hb2)
  have B2 := Lib.hid (B1.out.nx hb2)
  clear hb2 c0 c1 c2 c3 c4 c5 c6 HW R1 B1
  obtain ⟨c0, c1, c2, c3, c4, c5, c6⟩ := c7row R2.out
  go_wp2_with fail
  ((with_reducible refine (HO.out _ B2.out).mono ?_); rintro e w3 ⟨rfl, hb3⟩)
  have B3 := Lib.hid (B2.out.nx hb3)
  clear hb3 c0 c1 c2 c3 c4 c5 c6 HO R2 B2
  go_wp2_with fail
  ((with_reducible refine (HX.out _).mono ?_); rintro e w4 ⟨rfl, hb4⟩)
  have B4 := B3.out.nx hb4
  clear hb4 HX B3
  go_wp2
  go_ret2
  exact ⟨rfl, B4⟩
set_option maxRecDepth 100000 in
set_option maxHeartbeats 4000000 in
theorem Allowed_ok (t : Tg) (R : TgR t) (n : Int) (hi : insT t n = true) (w : World) (h : SgW w) : Calls Tryz.prog 29 #[tgV t, .int .i64 n] w (Ret w (.tuple #[.int .i64 (t.tol + extT t n), .int .i64 0])) := by
  have HB := Lib.hid (fun W (k : Below w.heap.size w W) => Bonus_ok t R n hi W (h.later k))
  have hal := below_al w (.cells (tgC t) 56)
  have hr := heap_alloc_new w (.cells (tgC t) 56)
  have hbd := extT_bd R (n := n) (by have := insT_in hi; have := R.lo; have := R.hi; omega)
  have htl := R.tol
  generalize extT t n = E at *
  obtain ⟨x, y, lo, hi2, tol, mat, pin⟩ := t
  simp only at hr htl
  have e1 : IntKind.i64.wrap (tol + E) = tol + E := IntWalk.i64_in _ (by omega)
  clear R h hi hbd htl
  go_enter Tryz.func29, Tryz.ntmps29
  go_wp2_with fail
  ((with_reducible refine (HB.out _ hal).mono ?_); rintro e w1 ⟨rfl, hb1⟩)
  obtain ⟨c0, c1, c2, c3, c4, c5, c6⟩ := c7row (keepD hr hb1)
  have B1 := hal.nx hb1
  clear hb1 hal hr HB
  go_wp2
  go_ret2
  exact ⟨rfl, B1⟩
set_option maxRecDepth 100000 in
set_option maxHeartbeats 4000000 in
theorem Virtual_ok (t : Tg) (R : TgR t) (w : World) (h : SgW w) : Calls Tryz.prog 22 #[tgV t] w (Ret w (.tuple #[.int .i64 (virT t), .int .i64 0])) := by
  have HC := Lib.hid (fun W => bCheck_ok t R W)
  have HO := Lib.hid (fun W (k : Below w.heap.size w W) => of_ok t R W (h.later k))
  have hs := side_is t
  have HE := Lib.hid (fun W => end_ok t (sideT t) (sideT t) hs W)
  have hV : virT t = endT t (sideT t) + sideT t * t.tol := by
    unfold virT endT
    rcases hs with e | e <;> (rw [e]; simp; try omega)
  have hEb : 1 ≤ endT t (sideT t) ∧ endT t (sideT t) ≤ 100000 := by
    have r1 := R.lo
    have r2 := R.hi
    unfold endT
    split <;> omega
  have htl := R.tol
  have hal := below_al w (.cells (tgC t) 56)
  have hr := heap_alloc_new w (.cells (tgC t) 56)
  generalize virT t = V at *
  generalize endT t (sideT t) = m at *
  generalize sideT t = s at *
  obtain ⟨x, y, lo, hi, tol, mat, pin⟩ := t
  simp only at hr hV htl
  have hp : -100000 ≤ s * tol ∧ s * tol ≤ 100000 := by rcases hs with rfl | rfl <;> omega
  have e1 : IntKind.i64.wrap (s * tol) = s * tol := IntWalk.i64_in _ (by omega)
  have e2 : IntKind.i64.wrap (m + s * tol) = m + s * tol := IntWalk.i64_in _ (by omega)
  have E1 := Lib.hid e1
  have E2 := Lib.hid e2
  subst hV
  clear R h hs hEb htl hp e1 e2
  go_enter Tryz.func22, Tryz.ntmps22
  go_wp2_with fail
  ((with_reducible refine (HC.out _).mono ?_); rintro e w1 ⟨rfl, hb1⟩)
  have R1 := Lib.hid (keepD hr hb1)
  have B1 := Lib.hid (hal.nx hb1)
  obtain ⟨c0, c1, c2, c3, c4, c5, c6⟩ := c7row R1.out
  clear hb1 hal hr HC
  go_wp2_with fail
  ((with_reducible refine (HO.out _ B1.out).mono ?_); rintro e w2 ⟨rfl, hb2⟩)
  have hal := below_al w2 (.cells #[.int .i64 x, .int .i64 y, .int .i64 lo, .int .i64 hi, .int .i64 tol, .int .i64 mat, .bool pin, .int .i64 s] 125)
  have HN := Lib.hid (heap_alloc_new w2 (.cells #[.int .i64 x, .int .i64 y, .int .i64 lo, .int .i64 hi, .int .i64 tol, .int .i64 mat, .bool pin, .int .i64 s] 125))
  have B2 := Lib.hid ((B1.out.nx hb2).nx hal)
  clear hb2 hal c0 c1 c2 c3 c4 c5 c6 HO R1 B1
  go_upto_region 5 with fail
  generalize w2.alloc (.cells #[.int .i64 x, .int .i64 y, .int .i64 lo, .int .i64 hi, .int .i64 tol, .int .i64 mat, .bool pin, .int .i64 s] 125) = W0 at *
  generalize w2.heap.size = g at *
  have e1 := E1.out
  have e2 := E2.out
  have HALL := Lib.hid (fun (W : World) (h : Below W0.heap.size W0 W) => by
    obtain ⟨d0, d1, d2, d3, d4, d5, d6, d7⟩ := c8row (keepD HN.out h)
    exact (⟨d0, d1, d2, d3, d4, d5, d6, d7, h⟩ : W.cell? ⟨g, 0, none⟩ = some (.int .i64 x) ∧ W.cell? ⟨g, 1, none⟩ = some (.int .i64 y) ∧ W.cell? ⟨g, 2, none⟩ = some (.int .i64 lo) ∧ W.cell? ⟨g, 3, none⟩ = some (.int .i64 hi) ∧ W.cell? ⟨g, 4, none⟩ = some (.int .i64 tol) ∧ W.cell? ⟨g, 5, none⟩ = some (.int .i64 mat) ∧ W.cell? ⟨g, 6, none⟩ = some (.bool pin) ∧ W.cell? ⟨g, 7, none⟩ = some (.int .i64 s) ∧ Below W0.heap.size W0 W))
  have hB : Below W0.heap.size W0 W0 := Below.refl _ _
  go_region_held3 (fun W => W.cell? ⟨g, 0, none⟩ = some (.int .i64 x) ∧ W.cell? ⟨g, 1, none⟩ = some (.int .i64 y) ∧ W.cell? ⟨g, 2, none⟩ = some (.int .i64 lo) ∧ W.cell? ⟨g, 3, none⟩ = some (.int .i64 hi) ∧ W.cell? ⟨g, 4, none⟩ = some (.int .i64 tol) ∧ W.cell? ⟨g, 5, none⟩ = some (.int .i64 mat) ∧ W.cell? ⟨g, 6, none⟩ = some (.bool pin) ∧ W.cell? ⟨g, 7, none⟩ = some (.int .i64 s) ∧ Below W0.heap.size W0 W)
    (first | with_reducible exact HALL.out _ B1 | with_reducible exact HALL.out _ hB | with_reducible exact HALL.out _ hB.drew)
    (first
      | (go_at_call 63; (with_reducible refine (HE.out _).mono ?_); rintro e v1 ⟨rfl, hb1⟩; (first | (with_reducible have B1 := hB.drew.nx hb1) | (with_reducible have B1 := hB.nx hb1)))
      | fail)
  all_goals
    have hw := B2.out.nx B1
    go_wp2
    go_ret2
    exact ⟨rfl, hw⟩
/-- A circle keeps its target. -/
def keepB (t : Tg) (c : Ci) : Bool := insT t c.s && decide (4 * ((c.x - t.x) * (c.x - t.x) + (c.y - t.y) * (c.y - t.y)) ≤ (t.tol + extT t c.s) * (t.tol + extT t c.s))
set_option maxRecDepth 100000 in
set_option maxHeartbeats 4000000 in
theorem gap_ok (t : Tg) (R : TgR t) (c : Ci) (C : CiR c) (w : World) : Calls Tryz.prog 119 #[tgV t, ciV c] w (Ret w (.tuple #[.int .i64 (c.x - t.x), .int .i64 (c.y - t.y)])) := by
  have r1 := R.x
  have r2 := R.y
  have r3 := C.x
  have r4 := C.y
  obtain ⟨x, y, lo, hi, tol, mat, pin⟩ := t
  obtain ⟨cx, cy, cs⟩ := c
  simp only at r1 r2 r3 r4
  have e1 : IntKind.i64.wrap (cx - x) = cx - x := IntWalk.i64_in _ (by omega)
  have e2 : IntKind.i64.wrap (cy - y) = cy - y := IntWalk.i64_in _ (by omega)
  have hB := bxx w (.cells #[.int .i64 x, .int .i64 y, .int .i64 lo, .int .i64 hi, .int .i64 tol, .int .i64 mat, .bool pin] 56) (.cells #[.int .i64 cx, .int .i64 cy, .int .i64 cs] 80)
  have hR := nww w (.cells #[.int .i64 x, .int .i64 y, .int .i64 lo, .int .i64 hi, .int .i64 tol, .int .i64 mat, .bool pin] 56) #[.int .i64 cx, .int .i64 cy, .int .i64 cs] 80
  have hA := keepD (heap_alloc_new w (.cells #[.int .i64 x, .int .i64 y, .int .i64 lo, .int .i64 hi, .int .i64 tol, .int .i64 mat, .bool pin] 56)) (below_al _ (.cells #[.int .i64 cx, .int .i64 cy, .int .i64 cs] 80))
  obtain ⟨c0, c1, c2, c3, c4, c5, c6⟩ := c7row hA
  obtain ⟨d0, d1, d2⟩ := c3row hR
  clear R C r1 r2 r3 r4 hR hA
  go_enter Tryz.func119, Tryz.ntmps119
  go_upto_region 1 with fail
  generalize (w.alloc (.cells #[.int .i64 x, .int .i64 y, .int .i64 lo, .int .i64 hi, .int .i64 tol, .int .i64 mat, .bool pin] 56)).alloc (.cells #[.int .i64 cx, .int .i64 cy, .int .i64 cs] 80) = W0 at *
  go_region
  go_wp2
  go_ret2
  exact ⟨rfl, hB.drew⟩
set_option maxRecDepth 100000 in
set_option maxHeartbeats 8000000 in
theorem good_ok (t : Tg) (R : TgR t) (c : Ci) (C : CiR c) (w : World) (h : SgW w) : Calls Tryz.prog 71 #[tgV t, ciV c] w (Ret w (.bool (keepB t c))) := by
  have hbd := extT_bd R (n := c.s) (by have := C.s; omega)
  have HG := Lib.hid (fun W => gap_ok t R c C W)
  have HW := Lib.hid (fun W => bwithin_c t c.s W)
  have HO := Lib.hid (fun W (k : Below w.heap.size w W) => of_ok t R W (h.later k))
  have HX := Lib.hid (fun W => extra_ok t R c.s (by have := C.s; omega) (by have := C.s; omega) W)
  obtain ⟨B, hBq⟩ : ∃ B, keepB t c = B := ⟨_, rfl⟩
  rw [hBq]
  unfold keepB at hBq
  have q1 := sqb (a := c.x - t.x) (A := 200000) (by have := R.x; have := C.x; omega) (by have := R.x; have := C.x; omega)
  have q2 := sqb (a := c.y - t.y) (A := 200000) (by have := R.y; have := C.y; omega) (by have := R.y; have := C.y; omega)
  have q3 := sqb (a := t.tol + extT t c.s) (A := 300000) (by have := R.tol; omega) (by have := R.tol; omega)
  have htl := R.tol
  generalize extT t c.s = E at *
  generalize sideT t = s at *
  generalize insT t c.s = I at *
  generalize c.x - t.x = dx at *
  generalize c.y - t.y = dy at *
  have e0 : IntKind.i64.wrap (t.tol + E) = t.tol + E := IntWalk.i64_in _ (by omega)
  obtain ⟨x, y, lo, hi, tol, mat, pin⟩ := t
  obtain ⟨cx, cy, cs⟩ := c
  simp only at hBq q3 e0
  obtain ⟨a, ha⟩ : ∃ a, tol + E = a := ⟨_, rfl⟩
  rw [ha] at hBq q3
  replace e0 := e0.trans ha
  obtain ⟨X, hX⟩ : ∃ X, dx * dx = X := ⟨_, rfl⟩
  obtain ⟨Y, hY⟩ : ∃ Y, dy * dy = Y := ⟨_, rfl⟩
  obtain ⟨A, hA⟩ : ∃ A, a * a = A := ⟨_, rfl⟩
  rw [hX] at q1 hBq
  rw [hY] at q2 hBq
  rw [hA] at q3 hBq
  have e1 : IntKind.i64.wrap (dx * dx) = X := by rw [hX]; exact IntWalk.i64_in _ (by omega)
  have e2 : IntKind.i64.wrap (dy * dy) = Y := by rw [hY]; exact IntWalk.i64_in _ (by omega)
  have e3 : IntKind.i64.wrap (a * a) = A := by rw [hA]; exact IntWalk.i64_in _ (by omega)
  have e4 : IntKind.i64.wrap (X + Y) = X + Y := IntWalk.i64_in _ (by omega)
  have e5 : IntKind.i64.wrap (4 * (X + Y)) = 4 * (X + Y) := IntWalk.i64_in _ (by omega)
  have E0 := Lib.hid e0
  have EE := Lib.hid (show IntKind.i64.wrap (dx * dx) = X ∧ IntKind.i64.wrap (dy * dy) = Y ∧ IntKind.i64.wrap (a * a) = A ∧ IntKind.i64.wrap (X + Y) = X + Y ∧ IntKind.i64.wrap (4 * (X + Y)) = 4 * (X + Y) from ⟨e1, e2, e3, e4, e5⟩)
  clear q1 q2 q3 hX hY hA ha e0 e1 e2 e3 e4 e5 hbd htl R C h
  have hal := bxx w (.cells #[.int .i64 x, .int .i64 y, .int .i64 lo, .int .i64 hi, .int .i64 tol, .int .i64 mat, .bool pin] 56) (.cells #[.int .i64 cx, .int .i64 cy, .int .i64 cs] 80)
  have hR := nww w (.cells #[.int .i64 x, .int .i64 y, .int .i64 lo, .int .i64 hi, .int .i64 tol, .int .i64 mat, .bool pin] 56) #[.int .i64 cx, .int .i64 cy, .int .i64 cs] 80
  have hA := keepD (heap_alloc_new w (.cells #[.int .i64 x, .int .i64 y, .int .i64 lo, .int .i64 hi, .int .i64 tol, .int .i64 mat, .bool pin] 56)) (below_al _ (.cells #[.int .i64 cx, .int .i64 cy, .int .i64 cs] 80))
  have HQ := Lib.hid hBq
  clear hBq
  go_enter Tryz.func71, Tryz.ntmps71
  go_wp2_with fail
  ((with_reducible refine (HG.out _).mono ?_); rintro e w1 ⟨rfl, hb1⟩)
  have RA := Lib.hid (keepD hA hb1)
  have RB := Lib.hid (keepD hR hb1)
  have B1 := Lib.hid (hal.nx hb1)
  clear hb1 hal hR hA HG
  go_upto_region 2 with fail
  have e0 := E0.out
  have HALL := Lib.hid (fun (W : World) (h : Below w1.heap.size w1 W) => by
    obtain ⟨d0, d1, d2, d3, d4, d5, d6⟩ := c7row (keepD RA.out h)
    obtain ⟨f0, f1, f2⟩ := c3row (keepD RB.out h)
    exact (⟨⟨d0, d1, d2, d3, d4, d5, d6⟩, ⟨f0, f1, f2⟩, h⟩ : (W.cell? ⟨w.heap.size, 0, none⟩ = some (.int .i64 x) ∧ W.cell? ⟨w.heap.size, 1, none⟩ = some (.int .i64 y) ∧ W.cell? ⟨w.heap.size, 2, none⟩ = some (.int .i64 lo) ∧ W.cell? ⟨w.heap.size, 3, none⟩ = some (.int .i64 hi) ∧ W.cell? ⟨w.heap.size, 4, none⟩ = some (.int .i64 tol) ∧ W.cell? ⟨w.heap.size, 5, none⟩ = some (.int .i64 mat) ∧ W.cell? ⟨w.heap.size, 6, none⟩ = some (.bool pin)) ∧ (W.cell? ⟨w.heap.size + 1, 0, none⟩ = some (.int .i64 cx) ∧ W.cell? ⟨w.heap.size + 1, 1, none⟩ = some (.int .i64 cy) ∧ W.cell? ⟨w.heap.size + 1, 2, none⟩ = some (.int .i64 cs)) ∧ Below w1.heap.size w1 W))
  have hB : Below w1.heap.size w1 w1 := Below.refl _ _
  go_region_held3 (fun W => (W.cell? ⟨w.heap.size, 0, none⟩ = some (.int .i64 x) ∧ W.cell? ⟨w.heap.size, 1, none⟩ = some (.int .i64 y) ∧ W.cell? ⟨w.heap.size, 2, none⟩ = some (.int .i64 lo) ∧ W.cell? ⟨w.heap.size, 3, none⟩ = some (.int .i64 hi) ∧ W.cell? ⟨w.heap.size, 4, none⟩ = some (.int .i64 tol) ∧ W.cell? ⟨w.heap.size, 5, none⟩ = some (.int .i64 mat) ∧ W.cell? ⟨w.heap.size, 6, none⟩ = some (.bool pin)) ∧ (W.cell? ⟨w.heap.size + 1, 0, none⟩ = some (.int .i64 cx) ∧ W.cell? ⟨w.heap.size + 1, 1, none⟩ = some (.int .i64 cy) ∧ W.cell? ⟨w.heap.size + 1, 2, none⟩ = some (.int .i64 cs)) ∧ Below w1.heap.size w1 W)
    (first | with_reducible exact HALL.out _ B3 | with_reducible exact HALL.out _ B2 | with_reducible exact HALL.out _ hB | with_reducible exact HALL.out _ hB.drew)
    (first
      | (go_at_call 61; (first | (with_reducible refine (HO.out _ (B1.out.nx hB.drew)).mono ?_) | (with_reducible refine (HO.out _ (B1.out.nx hB)).mono ?_)); rintro e v2 ⟨rfl, hb2⟩; (first | (with_reducible have B2 := hB.drew.nx hb2) | (with_reducible have B2 := hB.nx hb2)))
      | (go_at_call 62; (with_reducible refine (HX.out _).mono ?_); rintro e v3 ⟨rfl, hb3⟩; have B3 := B2.nx hb3)
      | fail)
  all_goals
    have HB3 := Lib.hid (B1.out.nx B3)
    obtain ⟨c0, c1, c2, c3, c4, c5, c6⟩ := c7row (keepD RA.out B3)
    obtain ⟨d0, d1, d2⟩ := c3row (keepD RB.out B3)
    clear hb2 hb3 B2 B3 hB HALL HO HX e0 RA RB
    go_wp2_with fail
    ((with_reducible refine (HW.out _).mono ?_); rintro e w4 ⟨rfl, hb4⟩)
    have hw := HB3.out.nx hb4
    clear hb4 HB3 HW c0 c1 c2 c3 c4 c5 c6 d0 d1 d2
    cases I with
    | false =>
      obtain rfl : false = B := HQ.out
      go_wp2
      go_ret
      exact ⟨rfl, hw⟩
    | true =>
      have hq : decide (4 * (X + Y) ≤ A) = B := HQ.out
      obtain ⟨e1, e2, e3, e4, e5⟩ := EE.out
      by_cases q : 4 * (X + Y) ≤ A
      · obtain rfl : true = B := by rw [← hq]; exact (decide_eq_true q).symm
        clear hq
        go_wp2
        go_ret
        refine ⟨ret_bool ?_, hw⟩
        first | rfl | (simp; done) | (simp; omega)
      · obtain rfl : false = B := by rw [← hq]; exact (decide_eq_false q).symm
        clear hq
        go_wp2
        go_ret
        refine ⟨ret_bool ?_, hw⟩
        first | rfl | (simp; done) | (simp; omega)
set_option maxRecDepth 100000 in
set_option maxHeartbeats 4000000 in
theorem bboth_ok (t : Tg) (R : TgR t) (c : Ci) (C : CiR c) (w : World) : Calls Tryz.prog 70 #[tgV t, ciV c] w (Ret w (.int .i64 0)) := by
  have HC := Lib.hid (fun W => bCheck_ok t R W)
  have HR := Lib.hid (fun W => ring_ok c C W)
  obtain ⟨x, y, lo, hi, tol, mat, pin⟩ := t
  obtain ⟨cx, cy, cs⟩ := c
  have hal := bxx w (.cells #[.int .i64 x, .int .i64 y, .int .i64 lo, .int .i64 hi, .int .i64 tol, .int .i64 mat, .bool pin] 56) (.cells #[.int .i64 cx, .int .i64 cy, .int .i64 cs] 80)
  have hR := nww w (.cells #[.int .i64 x, .int .i64 y, .int .i64 lo, .int .i64 hi, .int .i64 tol, .int .i64 mat, .bool pin] 56) #[.int .i64 cx, .int .i64 cy, .int .i64 cs] 80
  clear R C
  go_enter Tryz.func70, Tryz.ntmps70
  go_wp2_with fail
  ((with_reducible refine (HC.out _).mono ?_); rintro e w1 ⟨rfl, hb1⟩)
  obtain ⟨d0, d1, d2⟩ := c3row (keepD hR hb1)
  have hw := hal.nx hb1
  clear hb1 hal hR HC
  go_wp2_with fail
  ((with_reducible refine (HR.out _).mono ?_); rintro e w2 ⟨rfl, hb2⟩)
  have hw2 := hw.nx hb2
  go_wp2
  go_ret
  exact ⟨rfl, hw2⟩
set_option maxRecDepth 100000 in
set_option maxHeartbeats 4000000 in
theorem Keeps_ok (t : Tg) (R : TgR t) (c : Ci) (C : CiR c) (w : World) (h : SgW w) : Calls Tryz.prog 27 #[tgV t, ciV c] w (Ret w (.tuple #[.bool (keepB t c), .int .i64 0])) := by
  have HC := Lib.hid (fun W => bboth_ok t R c C W)
  have HG := Lib.hid (fun W (k : Below w.heap.size w W) => good_ok t R c C W (h.later k))
  generalize keepB t c = B at *
  obtain ⟨x, y, lo, hi, tol, mat, pin⟩ := t
  obtain ⟨cx, cy, cs⟩ := c
  have hal := bxx w (.cells #[.int .i64 x, .int .i64 y, .int .i64 lo, .int .i64 hi, .int .i64 tol, .int .i64 mat, .bool pin] 56) (.cells #[.int .i64 cx, .int .i64 cy, .int .i64 cs] 80)
  have hR := nww w (.cells #[.int .i64 x, .int .i64 y, .int .i64 lo, .int .i64 hi, .int .i64 tol, .int .i64 mat, .bool pin] 56) #[.int .i64 cx, .int .i64 cy, .int .i64 cs] 80
  have hA := keepD (heap_alloc_new w (.cells #[.int .i64 x, .int .i64 y, .int .i64 lo, .int .i64 hi, .int .i64 tol, .int .i64 mat, .bool pin] 56)) (below_al _ (.cells #[.int .i64 cx, .int .i64 cy, .int .i64 cs] 80))
  clear R C h
  go_enter Tryz.func27, Tryz.ntmps27
  go_wp2_with fail
  ((with_reducible refine (HC.out _).mono ?_); rintro e w1 ⟨rfl, hb1⟩)
  obtain ⟨d0, d1, d2⟩ := c3row (keepD hR hb1)
  obtain ⟨c0, c1, c2, c3, c4, c5, c6⟩ := c7row (keepD hA hb1)
  have hw := hal.nx hb1
  clear hb1 hal hR hA HC
  go_wp2_with fail
  ((with_reducible refine (HG.out _ hw).mono ?_); rintro e w2 ⟨rfl, hb2⟩)
  have hw2 := hw.nx hb2
  go_wp2
  go_ret2
  exact ⟨rfl, hw2⟩
end Go.Proofs.Wk
/- BONUS: the feature and the frame of a target. -/
namespace Go.Proofs.Wk
open Go.RowKit Mt Po

def fkT (t : Tg) : Ft := ⟨[72], if t.pin = true then 2 else 1, 2, ⟨t.x, t.y, 0⟩, t.lo, t.hi⟩
def xkT (t : Tg) : Fm := ⟨8, true, t.tol, t.mat⟩
theorem run_max_ints2 {P : Program} (w : World) (ts : Array TypeId) (t : TypeId) (x y : Int) : (Builtin.max_ ts t #[.int .i64 x, .int .i64 y]).run P w = .ok (.int .i64 (if y > x then y else x)) w := by
  simp [Builtin.max_, Builtin.max2]
theorem fk_ftE {t : Tg} (R : TgR t) : ftE (fkT t) = 0 := by
  have r1 := R.x
  have r2 := R.y
  have r3 := R.lo
  have r4 := R.hi
  have r5 := R.le
  unfold ftE fkT
  simp only
  rw [if_neg (by decide), if_neg (by split <;> omega), if_neg (by split <;> omega), if_neg, if_neg (by split <;> omega), if_neg, if_neg (by omega)]
  · unfold limE
    rw [if_neg, if_neg (by omega)]
    · simp
    · unfold inC
      simp only [decide_eq_true_eq]
      omega
  · rw [Bool.not_eq_false]
    exact inP_iff.2 ⟨r1, r2, by simp, by simp⟩
theorem fk_frE {t : Tg} (R : TgR t) (hz : t.tol = 0 → t.mat = 1) : frE (fkT t) (xkT t) [] = 0 := by
  have r1 := R.tol
  have r2 := R.mat
  unfold frE
  rw [if_neg (by rw [fk_ftE R]; simp), if_neg, if_neg, if_neg (by simp)]
  · unfold pmE xkT fkT
    simp only
    cases t.pin
    · rw [if_neg (by decide), if_neg (by decide), if_neg (by intro h; exact h.2 (hz h.1)), if_neg (by intro h; revert h; simp [maK]), if_neg (by decide), if_neg (by decide)]
      simp
    · rw [if_neg (by decide), if_neg (by decide), if_neg (by intro h; exact h.2 (hz h.1)), if_neg (by intro h; revert h; simp [maK]), if_neg (by decide), if_neg (by decide)]
      simp
  · unfold plE xkT matE
    simp only
    rw [if_neg (by decide), if_neg (by rw [if_neg (by omega)]; simp), if_neg (by omega), if_neg (by simp)]
    simp [dtsE]
theorem dts_nil (W : World) : DtS W (.slice none 0 0) [] := ⟨.inl ⟨none, 0, rfl, rfl⟩, by simp, fun d hd => by simp at hd, ⟨none, 0, rfl, Nat.le_refl _⟩⟩
theorem feaK {t : Tg} (R : TgR t) (W : World) : Calls Tryz.prog 101 #[ftV (fkT t) (.slice none 0 0)] W (Ret W (.int .i64 0)) := by
  have := fea_c (fkT t) (.slice none 0 0) W (by simp [fkT])
  rwa [fk_ftE R] at this
theorem frK {t : Tg} (R : TgR t) (hz : t.tol = 0 → t.mat = 1) (W : World) : Calls Tryz.prog 57 #[ftV (fkT t) (.slice none 0 0), frV (xkT t) (.slice none 0 0)] W (Ret W (.int .i64 0)) := by
  have := frCheck_c (fv := .slice none 0 0) (fkT t) (xkT t) [] W (dts_nil W) (by simp [fkT])
  rwa [fk_frE R hz] at this
theorem inner1 (w : World) : Calls Tryz.prog 162 #[.int .i64 1] w (Pur w (.bool true)) := by
  go_enter Tryz.func162, Tryz.ntmps162
  go_wp2
  go_ret
  exact ⟨rfl, rfl⟩
set_option maxHeartbeats 2000000 in
theorem extr1true (x y lo hi : Int) (HF : ∀ W, Calls Tryz.prog 101 #[.agg #[.string ⟨#[72]⟩, .int .i64 1, .int .i64 2, .int .i64 x, .int .i64 y, .int .i64 0, .int .i64 lo, .int .i64 hi, .slice none 0 0]] W (Ret W (.int .i64 0))) (w : World) : Calls Tryz.prog 163 #[.agg #[.string ⟨#[72]⟩, .int .i64 1, .int .i64 2, .int .i64 x, .int .i64 y, .int .i64 0, .int .i64 lo, .int .i64 hi, .slice none 0 0], .bool true] w (Ret w (.tuple #[.int .i64 lo, .int .i64 0])) := by
  have H := Lib.hid HF
  have hal := below_al w (.cells #[.string ⟨#[72]⟩, .int .i64 1, .int .i64 2, .int .i64 x, .int .i64 y, .int .i64 0, .int .i64 lo, .int .i64 hi, .slice none 0 0] 28)
  have hr := heap_alloc_new w (.cells #[.string ⟨#[72]⟩, .int .i64 1, .int .i64 2, .int .i64 x, .int .i64 y, .int .i64 0, .int .i64 lo, .int .i64 hi, .slice none 0 0] 28)
  clear HF
  go_enter Tryz.func163, Tryz.ntmps163
  go_wp2_with fail
  ((with_reducible refine (H.out _).mono ?_); rintro e w1 ⟨rfl, hb1⟩)
  obtain ⟨c0, c1, c2, c3, c4, c5, c6, c7, c8⟩ := c9row (keepD hr hb1)
  have hw := hal.nx hb1
  clear hal hr hb1 H
  go_wp2
  go_ret2
  exact ⟨rfl, hw⟩
set_option maxHeartbeats 2000000 in
theorem extr1false (x y lo hi : Int) (HF : ∀ W, Calls Tryz.prog 101 #[.agg #[.string ⟨#[72]⟩, .int .i64 1, .int .i64 2, .int .i64 x, .int .i64 y, .int .i64 0, .int .i64 lo, .int .i64 hi, .slice none 0 0]] W (Ret W (.int .i64 0))) (w : World) : Calls Tryz.prog 163 #[.agg #[.string ⟨#[72]⟩, .int .i64 1, .int .i64 2, .int .i64 x, .int .i64 y, .int .i64 0, .int .i64 lo, .int .i64 hi, .slice none 0 0], .bool false] w (Ret w (.tuple #[.int .i64 hi, .int .i64 0])) := by
  have H := Lib.hid HF
  have hal := below_al w (.cells #[.string ⟨#[72]⟩, .int .i64 1, .int .i64 2, .int .i64 x, .int .i64 y, .int .i64 0, .int .i64 lo, .int .i64 hi, .slice none 0 0] 28)
  have hr := heap_alloc_new w (.cells #[.string ⟨#[72]⟩, .int .i64 1, .int .i64 2, .int .i64 x, .int .i64 y, .int .i64 0, .int .i64 lo, .int .i64 hi, .slice none 0 0] 28)
  clear HF
  go_enter Tryz.func163, Tryz.ntmps163
  go_wp2_with fail
  ((with_reducible refine (H.out _).mono ?_); rintro e w1 ⟨rfl, hb1⟩)
  obtain ⟨c0, c1, c2, c3, c4, c5, c6, c7, c8⟩ := c9row (keepD hr hb1)
  have hw := hal.nx hb1
  clear hal hr hb1 H
  go_wp2
  go_ret2
  exact ⟨rfl, hw⟩
set_option maxRecDepth 100000 in
set_option maxHeartbeats 4000000 in
theorem Maximum1 (x y lo hi : Int) (HF : ∀ W, Calls Tryz.prog 101 #[.agg #[.string ⟨#[72]⟩, .int .i64 1, .int .i64 2, .int .i64 x, .int .i64 y, .int .i64 0, .int .i64 lo, .int .i64 hi, .slice none 0 0]] W (Ret W (.int .i64 0))) (w : World) : Calls Tryz.prog 109 #[.agg #[.string ⟨#[72]⟩, .int .i64 1, .int .i64 2, .int .i64 x, .int .i64 y, .int .i64 0, .int .i64 lo, .int .i64 hi, .slice none 0 0]] w (Ret w (.tuple #[.int .i64 lo, .int .i64 0])) := by
  have HX := Lib.hid (fun W => extr1true x y lo hi HF W)
  have HB := Lib.hid (below_al w (.cells #[.string ⟨#[72]⟩, .int .i64 1, .int .i64 2, .int .i64 x, .int .i64 y, .int .i64 0, .int .i64 lo, .int .i64 hi, .slice none 0 0] 28))
  have HN := Lib.hid (heap_alloc_new w (.cells #[.string ⟨#[72]⟩, .int .i64 1, .int .i64 2, .int .i64 x, .int .i64 y, .int .i64 0, .int .i64 lo, .int .i64 hi, .slice none 0 0] 28))
  clear HF
  go_enter Tryz.func109, Tryz.ntmps109
  go_upto_region 1 with fail
  generalize w.alloc (.cells #[.string ⟨#[72]⟩, .int .i64 1, .int .i64 2, .int .i64 x, .int .i64 y, .int .i64 0, .int .i64 lo, .int .i64 hi, .slice none 0 0] 28) = W0 at *
  have HALL := Lib.hid (fun (W : World) (h : Below W0.heap.size W0 W) => by
    obtain ⟨d0, d1, d2, d3, d4, d5, d6, d7, d8⟩ := c9row (keepD HN.out h)
    exact (⟨⟨d0, d1, d2, d3, d4, d5, d6, d7, d8⟩, h⟩ : (W.cell? ⟨w.heap.size, 0, none⟩ = some (.string ⟨#[72]⟩) ∧ W.cell? ⟨w.heap.size, 1, none⟩ = some (.int .i64 1) ∧ W.cell? ⟨w.heap.size, 2, none⟩ = some (.int .i64 2) ∧ W.cell? ⟨w.heap.size, 3, none⟩ = some (.int .i64 x) ∧ W.cell? ⟨w.heap.size, 4, none⟩ = some (.int .i64 y) ∧ W.cell? ⟨w.heap.size, 5, none⟩ = some (.int .i64 0) ∧ W.cell? ⟨w.heap.size, 6, none⟩ = some (.int .i64 lo) ∧ W.cell? ⟨w.heap.size, 7, none⟩ = some (.int .i64 hi) ∧ W.cell? ⟨w.heap.size, 8, none⟩ = some (.slice none 0 0)) ∧ Below W0.heap.size W0 W))
  have hB : Below W0.heap.size W0 W0 := Below.refl _ _
  go_region_held3 (fun W => (W.cell? ⟨w.heap.size, 0, none⟩ = some (.string ⟨#[72]⟩) ∧ W.cell? ⟨w.heap.size, 1, none⟩ = some (.int .i64 1) ∧ W.cell? ⟨w.heap.size, 2, none⟩ = some (.int .i64 2) ∧ W.cell? ⟨w.heap.size, 3, none⟩ = some (.int .i64 x) ∧ W.cell? ⟨w.heap.size, 4, none⟩ = some (.int .i64 y) ∧ W.cell? ⟨w.heap.size, 5, none⟩ = some (.int .i64 0) ∧ W.cell? ⟨w.heap.size, 6, none⟩ = some (.int .i64 lo) ∧ W.cell? ⟨w.heap.size, 7, none⟩ = some (.int .i64 hi) ∧ W.cell? ⟨w.heap.size, 8, none⟩ = some (.slice none 0 0)) ∧ Below W0.heap.size W0 W)
    (first | with_reducible exact HALL.out _ B2 | with_reducible exact HALL.out _ hB | with_reducible exact HALL.out _ hB.drew)
    (first
      | (go_at_call 162; (with_reducible refine (inner1 _).mono ?_); rintro e w' ⟨rfl, rfl⟩)
      | (go_at_call 163; (with_reducible refine (HX.out _).mono ?_); rintro e v2 ⟨rfl, hb2⟩; (first | (with_reducible have B2 := hB.drew.nx hb2) | (with_reducible have B2 := hB.nx hb2)))
      | fail)
  all_goals
    have hw := HB.out.nx B2
    go_wp2
    go_ret2
    exact ⟨rfl, hw⟩
set_option maxRecDepth 100000 in
set_option maxHeartbeats 4000000 in
theorem Least1 (x y lo hi : Int) (HF : ∀ W, Calls Tryz.prog 101 #[.agg #[.string ⟨#[72]⟩, .int .i64 1, .int .i64 2, .int .i64 x, .int .i64 y, .int .i64 0, .int .i64 lo, .int .i64 hi, .slice none 0 0]] W (Ret W (.int .i64 0))) (w : World) : Calls Tryz.prog 110 #[.agg #[.string ⟨#[72]⟩, .int .i64 1, .int .i64 2, .int .i64 x, .int .i64 y, .int .i64 0, .int .i64 lo, .int .i64 hi, .slice none 0 0]] w (Ret w (.tuple #[.int .i64 hi, .int .i64 0])) := by
  have HX := Lib.hid (fun W => extr1false x y lo hi HF W)
  have HB := Lib.hid (below_al w (.cells #[.string ⟨#[72]⟩, .int .i64 1, .int .i64 2, .int .i64 x, .int .i64 y, .int .i64 0, .int .i64 lo, .int .i64 hi, .slice none 0 0] 28))
  have HN := Lib.hid (heap_alloc_new w (.cells #[.string ⟨#[72]⟩, .int .i64 1, .int .i64 2, .int .i64 x, .int .i64 y, .int .i64 0, .int .i64 lo, .int .i64 hi, .slice none 0 0] 28))
  clear HF
  go_enter Tryz.func110, Tryz.ntmps110
  go_upto_region 1 with fail
  generalize w.alloc (.cells #[.string ⟨#[72]⟩, .int .i64 1, .int .i64 2, .int .i64 x, .int .i64 y, .int .i64 0, .int .i64 lo, .int .i64 hi, .slice none 0 0] 28) = W0 at *
  have HALL := Lib.hid (fun (W : World) (h : Below W0.heap.size W0 W) => by
    obtain ⟨d0, d1, d2, d3, d4, d5, d6, d7, d8⟩ := c9row (keepD HN.out h)
    exact (⟨⟨d0, d1, d2, d3, d4, d5, d6, d7, d8⟩, h⟩ : (W.cell? ⟨w.heap.size, 0, none⟩ = some (.string ⟨#[72]⟩) ∧ W.cell? ⟨w.heap.size, 1, none⟩ = some (.int .i64 1) ∧ W.cell? ⟨w.heap.size, 2, none⟩ = some (.int .i64 2) ∧ W.cell? ⟨w.heap.size, 3, none⟩ = some (.int .i64 x) ∧ W.cell? ⟨w.heap.size, 4, none⟩ = some (.int .i64 y) ∧ W.cell? ⟨w.heap.size, 5, none⟩ = some (.int .i64 0) ∧ W.cell? ⟨w.heap.size, 6, none⟩ = some (.int .i64 lo) ∧ W.cell? ⟨w.heap.size, 7, none⟩ = some (.int .i64 hi) ∧ W.cell? ⟨w.heap.size, 8, none⟩ = some (.slice none 0 0)) ∧ Below W0.heap.size W0 W))
  have hB : Below W0.heap.size W0 W0 := Below.refl _ _
  go_region_held3 (fun W => (W.cell? ⟨w.heap.size, 0, none⟩ = some (.string ⟨#[72]⟩) ∧ W.cell? ⟨w.heap.size, 1, none⟩ = some (.int .i64 1) ∧ W.cell? ⟨w.heap.size, 2, none⟩ = some (.int .i64 2) ∧ W.cell? ⟨w.heap.size, 3, none⟩ = some (.int .i64 x) ∧ W.cell? ⟨w.heap.size, 4, none⟩ = some (.int .i64 y) ∧ W.cell? ⟨w.heap.size, 5, none⟩ = some (.int .i64 0) ∧ W.cell? ⟨w.heap.size, 6, none⟩ = some (.int .i64 lo) ∧ W.cell? ⟨w.heap.size, 7, none⟩ = some (.int .i64 hi) ∧ W.cell? ⟨w.heap.size, 8, none⟩ = some (.slice none 0 0)) ∧ Below W0.heap.size W0 W)
    (first | with_reducible exact HALL.out _ B2 | with_reducible exact HALL.out _ hB | with_reducible exact HALL.out _ hB.drew)
    (first
      | (go_at_call 162; (with_reducible refine (inner1 _).mono ?_); rintro e w' ⟨rfl, rfl⟩)
      | (go_at_call 163; (with_reducible refine (HX.out _).mono ?_); rintro e v2 ⟨rfl, hb2⟩; (first | (with_reducible have B2 := hB.drew.nx hb2) | (with_reducible have B2 := hB.nx hb2)))
      | fail)
  all_goals
    have hw := HB.out.nx B2
    go_wp2
    go_ret2
    exact ⟨rfl, hw⟩
set_option maxHeartbeats 2000000 in
theorem Inner1 (x y lo hi : Int) (HF : ∀ W, Calls Tryz.prog 101 #[.agg #[.string ⟨#[72]⟩, .int .i64 1, .int .i64 2, .int .i64 x, .int .i64 y, .int .i64 0, .int .i64 lo, .int .i64 hi, .slice none 0 0]] W (Ret W (.int .i64 0))) (w : World) : Calls Tryz.prog 108 #[.agg #[.string ⟨#[72]⟩, .int .i64 1, .int .i64 2, .int .i64 x, .int .i64 y, .int .i64 0, .int .i64 lo, .int .i64 hi, .slice none 0 0]] w (Ret w (.tuple #[.bool true, .int .i64 0])) := by
  have H := Lib.hid HF
  have hal := below_al w (.cells #[.string ⟨#[72]⟩, .int .i64 1, .int .i64 2, .int .i64 x, .int .i64 y, .int .i64 0, .int .i64 lo, .int .i64 hi, .slice none 0 0] 28)
  have hr := heap_alloc_new w (.cells #[.string ⟨#[72]⟩, .int .i64 1, .int .i64 2, .int .i64 x, .int .i64 y, .int .i64 0, .int .i64 lo, .int .i64 hi, .slice none 0 0] 28)
  clear HF
  go_enter Tryz.func108, Tryz.ntmps108
  go_wp2_with fail
  ((with_reducible refine (H.out _).mono ?_); rintro e w1 ⟨rfl, hb1⟩)
  obtain ⟨c0, c1, c2, c3, c4, c5, c6, c7, c8⟩ := c9row (keepD hr hb1)
  have hw := hal.nx hb1
  clear hal hr hb1 H
  go_wp2_with fail
  ((with_reducible refine (inner1 _).mono ?_); rintro e w' ⟨rfl, rfl⟩)
  go_wp2
  go_ret2
  exact ⟨rfl, hw⟩
set_option maxRecDepth 100000 in
set_option maxHeartbeats 4000000 in
theorem material11 (x y lo hi tol : Int) (HF : ∀ W, Calls Tryz.prog 101 #[.agg #[.string ⟨#[72]⟩, .int .i64 1, .int .i64 2, .int .i64 x, .int .i64 y, .int .i64 0, .int .i64 lo, .int .i64 hi, .slice none 0 0]] W (Ret W (.int .i64 0))) (w : World) : Calls Tryz.prog 58 #[.agg #[.string ⟨#[72]⟩, .int .i64 1, .int .i64 2, .int .i64 x, .int .i64 y, .int .i64 0, .int .i64 lo, .int .i64 hi, .slice none 0 0], .agg #[.int .i64 8, .bool true, .int .i64 tol, .int .i64 1, .slice none 0 0]] w (Ret w (.tuple #[.int .i64 lo, .bool true, .int .i64 0])) := by
  have HI := Lib.hid (fun W => Inner1 x y lo hi HF W)
  have HM := Lib.hid (fun W => Maximum1 x y lo hi HF W)
  have hal := bxx w (.cells #[.string ⟨#[72]⟩, .int .i64 1, .int .i64 2, .int .i64 x, .int .i64 y, .int .i64 0, .int .i64 lo, .int .i64 hi, .slice none 0 0] 28) (.cells #[.int .i64 8, .bool true, .int .i64 tol, .int .i64 1, .slice none 0 0] 31)
  have hR := nww w (.cells #[.string ⟨#[72]⟩, .int .i64 1, .int .i64 2, .int .i64 x, .int .i64 y, .int .i64 0, .int .i64 lo, .int .i64 hi, .slice none 0 0] 28) #[.int .i64 8, .bool true, .int .i64 tol, .int .i64 1, .slice none 0 0] 31
  have hA := keepD (heap_alloc_new w (.cells #[.string ⟨#[72]⟩, .int .i64 1, .int .i64 2, .int .i64 x, .int .i64 y, .int .i64 0, .int .i64 lo, .int .i64 hi, .slice none 0 0] 28)) (below_al _ (.cells #[.int .i64 8, .bool true, .int .i64 tol, .int .i64 1, .slice none 0 0] 31))
  clear HF
  go_enter Tryz.func58, Tryz.ntmps58
  go_wp2_with fail
  ((with_reducible refine (HI.out _).mono ?_); rintro e w1 ⟨rfl, hb1⟩)
  obtain ⟨c0, c1, c2, c3, c4, c5, c6, c7, c8⟩ := c9row (keepD hA hb1)
  obtain ⟨d0, d1, d2, d3, d4⟩ := c5row (keepD hR hb1)
  have HW := Lib.hid (hal.nx hb1)
  clear hal hR hA hb1 HI
  go_wp2_with fail
  ((with_reducible refine (HM.out _).mono ?_); rintro e w2 ⟨rfl, hb2⟩)
  have hw := HW.out.nx hb2
  clear hb2 HM HW c0 c1 c2 c3 c4 c5 c6 c7 c8 d0 d1 d2 d3 d4
  go_wp2
  go_ret3
  exact ⟨rfl, hw⟩
set_option maxRecDepth 100000 in
set_option maxHeartbeats 4000000 in
theorem frBonus11 (x y lo hi tol n : Int) (_r1 : 1 ≤ lo) (_r2 : hi ≤ 100000) (h0 : lo ≤ n) (h1 : n ≤ hi) (HF : ∀ W, Calls Tryz.prog 101 #[.agg #[.string ⟨#[72]⟩, .int .i64 1, .int .i64 2, .int .i64 x, .int .i64 y, .int .i64 0, .int .i64 lo, .int .i64 hi, .slice none 0 0]] W (Ret W (.int .i64 0)))
    (HX : ∀ W, Calls Tryz.prog 57 #[.agg #[.string ⟨#[72]⟩, .int .i64 1, .int .i64 2, .int .i64 x, .int .i64 y, .int .i64 0, .int .i64 lo, .int .i64 hi, .slice none 0 0], .agg #[.int .i64 8, .bool true, .int .i64 tol, .int .i64 1, .slice none 0 0]] W (Ret W (.int .i64 0))) (w : World) : Calls Tryz.prog 18 #[.agg #[.string ⟨#[72]⟩, .int .i64 1, .int .i64 2, .int .i64 x, .int .i64 y, .int .i64 0, .int .i64 lo, .int .i64 hi, .slice none 0 0], .agg #[.int .i64 8, .bool true, .int .i64 tol, .int .i64 1, .slice none 0 0], .int .i64 n] w (Ret w (.tuple #[.int .i64 (n - lo), .int .i64 0])) := by
  have HC := Lib.hid HX
  have HM := Lib.hid (fun W => material11 x y lo hi tol HF W)
  have hal := bxx w (.cells #[.string ⟨#[72]⟩, .int .i64 1, .int .i64 2, .int .i64 x, .int .i64 y, .int .i64 0, .int .i64 lo, .int .i64 hi, .slice none 0 0] 28) (.cells #[.int .i64 8, .bool true, .int .i64 tol, .int .i64 1, .slice none 0 0] 31)
  have hR := nww w (.cells #[.string ⟨#[72]⟩, .int .i64 1, .int .i64 2, .int .i64 x, .int .i64 y, .int .i64 0, .int .i64 lo, .int .i64 hi, .slice none 0 0] 28) #[.int .i64 8, .bool true, .int .i64 tol, .int .i64 1, .slice none 0 0] 31
  have hA := keepD (heap_alloc_new w (.cells #[.string ⟨#[72]⟩, .int .i64 1, .int .i64 2, .int .i64 x, .int .i64 y, .int .i64 0, .int .i64 lo, .int .i64 hi, .slice none 0 0] 28)) (below_al _ (.cells #[.int .i64 8, .bool true, .int .i64 tol, .int .i64 1, .slice none 0 0] 31))
  have e1 : IntKind.i64.wrap (lo - n) = lo - n := IntWalk.i64_in _ (by omega)
  have e2 : IntKind.i64.wrap (n - lo) = n - lo := IntWalk.i64_in _ (by omega)
  have HMX : Hid (∀ ts t W, (Builtin.max_ ts t #[.int .i64 (lo - n), .int .i64 (n - lo)]).run Tryz.prog W = .ok (.int .i64 (n - lo)) W) := Lib.hid (fun ts t W => by
    rw [run_max_ints2]
    congr 2
    omega)
  clear HF HX
  go_enter Tryz.func18, Tryz.ntmps18
  go_wp2_with fail
  ((with_reducible refine (HC.out _).mono ?_); rintro e w1 ⟨rfl, hb1⟩)
  have RA := Lib.hid (keepD hA hb1)
  have RB := Lib.hid (keepD hR hb1)
  obtain ⟨c0, c1, c2, c3, c4, c5, c6, c7, c8⟩ := c9row RA.out
  obtain ⟨d0, d1, d2, d3, d4⟩ := c5row RB.out
  have HW := Lib.hid (hal.nx hb1)
  clear hal hR hA hb1 HC
  go_wp2_with fail
  ((with_reducible refine (HM.out _).mono ?_); rintro e w2 ⟨rfl, hb2⟩)
  have hw := HW.out.nx hb2
  have hmx := HMX.out
  clear hb2 HM HW c0 c1 c2 c3 c4 c5 c6 c7 c8 d0 d1 d2 d3 d4 RA RB HMX
  go_wp2
  go_ret2
  exact ⟨rfl, hw⟩
set_option maxRecDepth 100000 in
set_option maxHeartbeats 4000000 in
theorem frVirtual11 (x y lo hi tol : Int) (_r1 : 1 ≤ lo ∧ lo ≤ 100000) (_r2 : 1 ≤ hi ∧ hi ≤ 100000) (r3 : 0 ≤ tol ∧ tol ≤ 100000) (HF : ∀ W, Calls Tryz.prog 101 #[.agg #[.string ⟨#[72]⟩, .int .i64 1, .int .i64 2, .int .i64 x, .int .i64 y, .int .i64 0, .int .i64 lo, .int .i64 hi, .slice none 0 0]] W (Ret W (.int .i64 0)))
    (HX : ∀ W, Calls Tryz.prog 57 #[.agg #[.string ⟨#[72]⟩, .int .i64 1, .int .i64 2, .int .i64 x, .int .i64 y, .int .i64 0, .int .i64 lo, .int .i64 hi, .slice none 0 0], .agg #[.int .i64 8, .bool true, .int .i64 tol, .int .i64 1, .slice none 0 0]] W (Ret W (.int .i64 0))) (w : World) : Calls Tryz.prog 21 #[.agg #[.string ⟨#[72]⟩, .int .i64 1, .int .i64 2, .int .i64 x, .int .i64 y, .int .i64 0, .int .i64 lo, .int .i64 hi, .slice none 0 0], .agg #[.int .i64 8, .bool true, .int .i64 tol, .int .i64 1, .slice none 0 0]] w (Ret w (.tuple #[.int .i64 (lo - tol), .int .i64 0])) := by
  have HC := Lib.hid HX
  have HM := Lib.hid (fun W => material11 x y lo hi tol HF W)
  have hal := bxx w (.cells #[.string ⟨#[72]⟩, .int .i64 1, .int .i64 2, .int .i64 x, .int .i64 y, .int .i64 0, .int .i64 lo, .int .i64 hi, .slice none 0 0] 28) (.cells #[.int .i64 8, .bool true, .int .i64 tol, .int .i64 1, .slice none 0 0] 31)
  have hR := nww w (.cells #[.string ⟨#[72]⟩, .int .i64 1, .int .i64 2, .int .i64 x, .int .i64 y, .int .i64 0, .int .i64 lo, .int .i64 hi, .slice none 0 0] 28) #[.int .i64 8, .bool true, .int .i64 tol, .int .i64 1, .slice none 0 0] 31
  have hA := keepD (heap_alloc_new w (.cells #[.string ⟨#[72]⟩, .int .i64 1, .int .i64 2, .int .i64 x, .int .i64 y, .int .i64 0, .int .i64 lo, .int .i64 hi, .slice none 0 0] 28)) (below_al _ (.cells #[.int .i64 8, .bool true, .int .i64 tol, .int .i64 1, .slice none 0 0] 31))
  have e1 : IntKind.i64.wrap (lo - tol) = lo - tol := IntWalk.i64_in _ (by omega)
  clear HF HX _r1 _r2 r3
  go_enter Tryz.func21, Tryz.ntmps21
  go_wp2_with fail
  ((with_reducible refine (HC.out _).mono ?_); rintro e w1 ⟨rfl, hb1⟩)
  have RA := Lib.hid (keepD hA hb1)
  have RB := Lib.hid (keepD hR hb1)
  obtain ⟨c0, c1, c2, c3, c4, c5, c6, c7, c8⟩ := c9row RA.out
  obtain ⟨d0, d1, d2, d3, d4⟩ := c5row RB.out
  have HW := Lib.hid (hal.nx hb1)
  clear hal hR hA hb1 HC
  go_wp2_with fail
  ((with_reducible refine (HM.out _).mono ?_); rintro e w2 ⟨rfl, hb2⟩)
  have hw := HW.out.nx hb2
  have RB2 := Lib.hid (keepD RB.out hb2)
  clear hb2 HM HW c0 c1 c2 c3 c4 c5 c6 c7 c8 d0 d1 d2 d3 d4 RA RB
  obtain ⟨d0, d1, d2, d3, d4⟩ := c5row RB2.out
  go_wp2
  go_ret2
  exact ⟨rfl, hw⟩
set_option maxRecDepth 100000 in
set_option maxHeartbeats 4000000 in
theorem material12 (x y lo hi tol : Int) (HF : ∀ W, Calls Tryz.prog 101 #[.agg #[.string ⟨#[72]⟩, .int .i64 1, .int .i64 2, .int .i64 x, .int .i64 y, .int .i64 0, .int .i64 lo, .int .i64 hi, .slice none 0 0]] W (Ret W (.int .i64 0))) (w : World) : Calls Tryz.prog 58 #[.agg #[.string ⟨#[72]⟩, .int .i64 1, .int .i64 2, .int .i64 x, .int .i64 y, .int .i64 0, .int .i64 lo, .int .i64 hi, .slice none 0 0], .agg #[.int .i64 8, .bool true, .int .i64 tol, .int .i64 2, .slice none 0 0]] w (Ret w (.tuple #[.int .i64 hi, .bool true, .int .i64 0])) := by
  have HI := Lib.hid (fun W => Inner1 x y lo hi HF W)
  have HM := Lib.hid (fun W => Least1 x y lo hi HF W)
  have hal := bxx w (.cells #[.string ⟨#[72]⟩, .int .i64 1, .int .i64 2, .int .i64 x, .int .i64 y, .int .i64 0, .int .i64 lo, .int .i64 hi, .slice none 0 0] 28) (.cells #[.int .i64 8, .bool true, .int .i64 tol, .int .i64 2, .slice none 0 0] 31)
  have hR := nww w (.cells #[.string ⟨#[72]⟩, .int .i64 1, .int .i64 2, .int .i64 x, .int .i64 y, .int .i64 0, .int .i64 lo, .int .i64 hi, .slice none 0 0] 28) #[.int .i64 8, .bool true, .int .i64 tol, .int .i64 2, .slice none 0 0] 31
  have hA := keepD (heap_alloc_new w (.cells #[.string ⟨#[72]⟩, .int .i64 1, .int .i64 2, .int .i64 x, .int .i64 y, .int .i64 0, .int .i64 lo, .int .i64 hi, .slice none 0 0] 28)) (below_al _ (.cells #[.int .i64 8, .bool true, .int .i64 tol, .int .i64 2, .slice none 0 0] 31))
  clear HF
  go_enter Tryz.func58, Tryz.ntmps58
  go_wp2_with fail
  ((with_reducible refine (HI.out _).mono ?_); rintro e w1 ⟨rfl, hb1⟩)
  obtain ⟨c0, c1, c2, c3, c4, c5, c6, c7, c8⟩ := c9row (keepD hA hb1)
  obtain ⟨d0, d1, d2, d3, d4⟩ := c5row (keepD hR hb1)
  have HW := Lib.hid (hal.nx hb1)
  clear hal hR hA hb1 HI
  go_wp2_with fail
  ((with_reducible refine (HM.out _).mono ?_); rintro e w2 ⟨rfl, hb2⟩)
  have hw := HW.out.nx hb2
  clear hb2 HM HW c0 c1 c2 c3 c4 c5 c6 c7 c8 d0 d1 d2 d3 d4
  go_wp2
  go_ret3
  exact ⟨rfl, hw⟩
set_option maxRecDepth 100000 in
set_option maxHeartbeats 4000000 in
theorem frBonus12 (x y lo hi tol n : Int) (_r1 : 1 ≤ lo) (_r2 : hi ≤ 100000) (h0 : lo ≤ n) (h1 : n ≤ hi) (HF : ∀ W, Calls Tryz.prog 101 #[.agg #[.string ⟨#[72]⟩, .int .i64 1, .int .i64 2, .int .i64 x, .int .i64 y, .int .i64 0, .int .i64 lo, .int .i64 hi, .slice none 0 0]] W (Ret W (.int .i64 0)))
    (HX : ∀ W, Calls Tryz.prog 57 #[.agg #[.string ⟨#[72]⟩, .int .i64 1, .int .i64 2, .int .i64 x, .int .i64 y, .int .i64 0, .int .i64 lo, .int .i64 hi, .slice none 0 0], .agg #[.int .i64 8, .bool true, .int .i64 tol, .int .i64 2, .slice none 0 0]] W (Ret W (.int .i64 0))) (w : World) : Calls Tryz.prog 18 #[.agg #[.string ⟨#[72]⟩, .int .i64 1, .int .i64 2, .int .i64 x, .int .i64 y, .int .i64 0, .int .i64 lo, .int .i64 hi, .slice none 0 0], .agg #[.int .i64 8, .bool true, .int .i64 tol, .int .i64 2, .slice none 0 0], .int .i64 n] w (Ret w (.tuple #[.int .i64 (hi - n), .int .i64 0])) := by
  have HC := Lib.hid HX
  have HM := Lib.hid (fun W => material12 x y lo hi tol HF W)
  have hal := bxx w (.cells #[.string ⟨#[72]⟩, .int .i64 1, .int .i64 2, .int .i64 x, .int .i64 y, .int .i64 0, .int .i64 lo, .int .i64 hi, .slice none 0 0] 28) (.cells #[.int .i64 8, .bool true, .int .i64 tol, .int .i64 2, .slice none 0 0] 31)
  have hR := nww w (.cells #[.string ⟨#[72]⟩, .int .i64 1, .int .i64 2, .int .i64 x, .int .i64 y, .int .i64 0, .int .i64 lo, .int .i64 hi, .slice none 0 0] 28) #[.int .i64 8, .bool true, .int .i64 tol, .int .i64 2, .slice none 0 0] 31
  have hA := keepD (heap_alloc_new w (.cells #[.string ⟨#[72]⟩, .int .i64 1, .int .i64 2, .int .i64 x, .int .i64 y, .int .i64 0, .int .i64 lo, .int .i64 hi, .slice none 0 0] 28)) (below_al _ (.cells #[.int .i64 8, .bool true, .int .i64 tol, .int .i64 2, .slice none 0 0] 31))
  have e1 : IntKind.i64.wrap (hi - n) = hi - n := IntWalk.i64_in _ (by omega)
  have e2 : IntKind.i64.wrap (n - hi) = n - hi := IntWalk.i64_in _ (by omega)
  have HMX : Hid (∀ ts t W, (Builtin.max_ ts t #[.int .i64 (hi - n), .int .i64 (n - hi)]).run Tryz.prog W = .ok (.int .i64 (hi - n)) W) := Lib.hid (fun ts t W => by
    rw [run_max_ints2]
    congr 2
    omega)
  clear HF HX
  go_enter Tryz.func18, Tryz.ntmps18
  go_wp2_with fail
  ((with_reducible refine (HC.out _).mono ?_); rintro e w1 ⟨rfl, hb1⟩)
  have RA := Lib.hid (keepD hA hb1)
  have RB := Lib.hid (keepD hR hb1)
  obtain ⟨c0, c1, c2, c3, c4, c5, c6, c7, c8⟩ := c9row RA.out
  obtain ⟨d0, d1, d2, d3, d4⟩ := c5row RB.out
  have HW := Lib.hid (hal.nx hb1)
  clear hal hR hA hb1 HC
  go_wp2_with fail
  ((with_reducible refine (HM.out _).mono ?_); rintro e w2 ⟨rfl, hb2⟩)
  have hw := HW.out.nx hb2
  have hmx := HMX.out
  clear hb2 HM HW c0 c1 c2 c3 c4 c5 c6 c7 c8 d0 d1 d2 d3 d4 RA RB HMX
  go_wp2
  go_ret2
  exact ⟨rfl, hw⟩
set_option maxRecDepth 100000 in
set_option maxHeartbeats 4000000 in
theorem frVirtual12 (x y lo hi tol : Int) (_r1 : 1 ≤ lo ∧ lo ≤ 100000) (_r2 : 1 ≤ hi ∧ hi ≤ 100000) (r3 : 0 ≤ tol ∧ tol ≤ 100000) (HF : ∀ W, Calls Tryz.prog 101 #[.agg #[.string ⟨#[72]⟩, .int .i64 1, .int .i64 2, .int .i64 x, .int .i64 y, .int .i64 0, .int .i64 lo, .int .i64 hi, .slice none 0 0]] W (Ret W (.int .i64 0)))
    (HX : ∀ W, Calls Tryz.prog 57 #[.agg #[.string ⟨#[72]⟩, .int .i64 1, .int .i64 2, .int .i64 x, .int .i64 y, .int .i64 0, .int .i64 lo, .int .i64 hi, .slice none 0 0], .agg #[.int .i64 8, .bool true, .int .i64 tol, .int .i64 2, .slice none 0 0]] W (Ret W (.int .i64 0))) (w : World) : Calls Tryz.prog 21 #[.agg #[.string ⟨#[72]⟩, .int .i64 1, .int .i64 2, .int .i64 x, .int .i64 y, .int .i64 0, .int .i64 lo, .int .i64 hi, .slice none 0 0], .agg #[.int .i64 8, .bool true, .int .i64 tol, .int .i64 2, .slice none 0 0]] w (Ret w (.tuple #[.int .i64 (hi + tol), .int .i64 0])) := by
  have HC := Lib.hid HX
  have HM := Lib.hid (fun W => material12 x y lo hi tol HF W)
  have hal := bxx w (.cells #[.string ⟨#[72]⟩, .int .i64 1, .int .i64 2, .int .i64 x, .int .i64 y, .int .i64 0, .int .i64 lo, .int .i64 hi, .slice none 0 0] 28) (.cells #[.int .i64 8, .bool true, .int .i64 tol, .int .i64 2, .slice none 0 0] 31)
  have hR := nww w (.cells #[.string ⟨#[72]⟩, .int .i64 1, .int .i64 2, .int .i64 x, .int .i64 y, .int .i64 0, .int .i64 lo, .int .i64 hi, .slice none 0 0] 28) #[.int .i64 8, .bool true, .int .i64 tol, .int .i64 2, .slice none 0 0] 31
  have hA := keepD (heap_alloc_new w (.cells #[.string ⟨#[72]⟩, .int .i64 1, .int .i64 2, .int .i64 x, .int .i64 y, .int .i64 0, .int .i64 lo, .int .i64 hi, .slice none 0 0] 28)) (below_al _ (.cells #[.int .i64 8, .bool true, .int .i64 tol, .int .i64 2, .slice none 0 0] 31))
  have e1 : IntKind.i64.wrap (hi + tol) = hi + tol := IntWalk.i64_in _ (by omega)
  clear HF HX _r1 _r2 r3
  go_enter Tryz.func21, Tryz.ntmps21
  go_wp2_with fail
  ((with_reducible refine (HC.out _).mono ?_); rintro e w1 ⟨rfl, hb1⟩)
  have RA := Lib.hid (keepD hA hb1)
  have RB := Lib.hid (keepD hR hb1)
  obtain ⟨c0, c1, c2, c3, c4, c5, c6, c7, c8⟩ := c9row RA.out
  obtain ⟨d0, d1, d2, d3, d4⟩ := c5row RB.out
  have HW := Lib.hid (hal.nx hb1)
  clear hal hR hA hb1 HC
  go_wp2_with fail
  ((with_reducible refine (HM.out _).mono ?_); rintro e w2 ⟨rfl, hb2⟩)
  have hw := HW.out.nx hb2
  have RB2 := Lib.hid (keepD RB.out hb2)
  clear hb2 HM HW c0 c1 c2 c3 c4 c5 c6 c7 c8 d0 d1 d2 d3 d4 RA RB
  obtain ⟨d0, d1, d2, d3, d4⟩ := c5row RB2.out
  go_wp2
  go_ret2
  exact ⟨rfl, hw⟩
theorem inner2 (w : World) : Calls Tryz.prog 162 #[.int .i64 2] w (Pur w (.bool false)) := by
  go_enter Tryz.func162, Tryz.ntmps162
  go_wp2
  go_ret
  exact ⟨rfl, rfl⟩
set_option maxHeartbeats 2000000 in
theorem extr2true (x y lo hi : Int) (HF : ∀ W, Calls Tryz.prog 101 #[.agg #[.string ⟨#[72]⟩, .int .i64 2, .int .i64 2, .int .i64 x, .int .i64 y, .int .i64 0, .int .i64 lo, .int .i64 hi, .slice none 0 0]] W (Ret W (.int .i64 0))) (w : World) : Calls Tryz.prog 163 #[.agg #[.string ⟨#[72]⟩, .int .i64 2, .int .i64 2, .int .i64 x, .int .i64 y, .int .i64 0, .int .i64 lo, .int .i64 hi, .slice none 0 0], .bool true] w (Ret w (.tuple #[.int .i64 lo, .int .i64 0])) := by
  have H := Lib.hid HF
  have hal := below_al w (.cells #[.string ⟨#[72]⟩, .int .i64 2, .int .i64 2, .int .i64 x, .int .i64 y, .int .i64 0, .int .i64 lo, .int .i64 hi, .slice none 0 0] 28)
  have hr := heap_alloc_new w (.cells #[.string ⟨#[72]⟩, .int .i64 2, .int .i64 2, .int .i64 x, .int .i64 y, .int .i64 0, .int .i64 lo, .int .i64 hi, .slice none 0 0] 28)
  clear HF
  go_enter Tryz.func163, Tryz.ntmps163
  go_wp2_with fail
  ((with_reducible refine (H.out _).mono ?_); rintro e w1 ⟨rfl, hb1⟩)
  obtain ⟨c0, c1, c2, c3, c4, c5, c6, c7, c8⟩ := c9row (keepD hr hb1)
  have hw := hal.nx hb1
  clear hal hr hb1 H
  go_wp2
  go_ret2
  exact ⟨rfl, hw⟩
set_option maxHeartbeats 2000000 in
theorem extr2false (x y lo hi : Int) (HF : ∀ W, Calls Tryz.prog 101 #[.agg #[.string ⟨#[72]⟩, .int .i64 2, .int .i64 2, .int .i64 x, .int .i64 y, .int .i64 0, .int .i64 lo, .int .i64 hi, .slice none 0 0]] W (Ret W (.int .i64 0))) (w : World) : Calls Tryz.prog 163 #[.agg #[.string ⟨#[72]⟩, .int .i64 2, .int .i64 2, .int .i64 x, .int .i64 y, .int .i64 0, .int .i64 lo, .int .i64 hi, .slice none 0 0], .bool false] w (Ret w (.tuple #[.int .i64 hi, .int .i64 0])) := by
  have H := Lib.hid HF
  have hal := below_al w (.cells #[.string ⟨#[72]⟩, .int .i64 2, .int .i64 2, .int .i64 x, .int .i64 y, .int .i64 0, .int .i64 lo, .int .i64 hi, .slice none 0 0] 28)
  have hr := heap_alloc_new w (.cells #[.string ⟨#[72]⟩, .int .i64 2, .int .i64 2, .int .i64 x, .int .i64 y, .int .i64 0, .int .i64 lo, .int .i64 hi, .slice none 0 0] 28)
  clear HF
  go_enter Tryz.func163, Tryz.ntmps163
  go_wp2_with fail
  ((with_reducible refine (H.out _).mono ?_); rintro e w1 ⟨rfl, hb1⟩)
  obtain ⟨c0, c1, c2, c3, c4, c5, c6, c7, c8⟩ := c9row (keepD hr hb1)
  have hw := hal.nx hb1
  clear hal hr hb1 H
  go_wp2
  go_ret2
  exact ⟨rfl, hw⟩
set_option maxRecDepth 100000 in
set_option maxHeartbeats 4000000 in
theorem Maximum2 (x y lo hi : Int) (HF : ∀ W, Calls Tryz.prog 101 #[.agg #[.string ⟨#[72]⟩, .int .i64 2, .int .i64 2, .int .i64 x, .int .i64 y, .int .i64 0, .int .i64 lo, .int .i64 hi, .slice none 0 0]] W (Ret W (.int .i64 0))) (w : World) : Calls Tryz.prog 109 #[.agg #[.string ⟨#[72]⟩, .int .i64 2, .int .i64 2, .int .i64 x, .int .i64 y, .int .i64 0, .int .i64 lo, .int .i64 hi, .slice none 0 0]] w (Ret w (.tuple #[.int .i64 hi, .int .i64 0])) := by
  have HX := Lib.hid (fun W => extr2false x y lo hi HF W)
  have HB := Lib.hid (below_al w (.cells #[.string ⟨#[72]⟩, .int .i64 2, .int .i64 2, .int .i64 x, .int .i64 y, .int .i64 0, .int .i64 lo, .int .i64 hi, .slice none 0 0] 28))
  have HN := Lib.hid (heap_alloc_new w (.cells #[.string ⟨#[72]⟩, .int .i64 2, .int .i64 2, .int .i64 x, .int .i64 y, .int .i64 0, .int .i64 lo, .int .i64 hi, .slice none 0 0] 28))
  clear HF
  go_enter Tryz.func109, Tryz.ntmps109
  go_upto_region 1 with fail
  generalize w.alloc (.cells #[.string ⟨#[72]⟩, .int .i64 2, .int .i64 2, .int .i64 x, .int .i64 y, .int .i64 0, .int .i64 lo, .int .i64 hi, .slice none 0 0] 28) = W0 at *
  have HALL := Lib.hid (fun (W : World) (h : Below W0.heap.size W0 W) => by
    obtain ⟨d0, d1, d2, d3, d4, d5, d6, d7, d8⟩ := c9row (keepD HN.out h)
    exact (⟨⟨d0, d1, d2, d3, d4, d5, d6, d7, d8⟩, h⟩ : (W.cell? ⟨w.heap.size, 0, none⟩ = some (.string ⟨#[72]⟩) ∧ W.cell? ⟨w.heap.size, 1, none⟩ = some (.int .i64 2) ∧ W.cell? ⟨w.heap.size, 2, none⟩ = some (.int .i64 2) ∧ W.cell? ⟨w.heap.size, 3, none⟩ = some (.int .i64 x) ∧ W.cell? ⟨w.heap.size, 4, none⟩ = some (.int .i64 y) ∧ W.cell? ⟨w.heap.size, 5, none⟩ = some (.int .i64 0) ∧ W.cell? ⟨w.heap.size, 6, none⟩ = some (.int .i64 lo) ∧ W.cell? ⟨w.heap.size, 7, none⟩ = some (.int .i64 hi) ∧ W.cell? ⟨w.heap.size, 8, none⟩ = some (.slice none 0 0)) ∧ Below W0.heap.size W0 W))
  have hB : Below W0.heap.size W0 W0 := Below.refl _ _
  go_region_held3 (fun W => (W.cell? ⟨w.heap.size, 0, none⟩ = some (.string ⟨#[72]⟩) ∧ W.cell? ⟨w.heap.size, 1, none⟩ = some (.int .i64 2) ∧ W.cell? ⟨w.heap.size, 2, none⟩ = some (.int .i64 2) ∧ W.cell? ⟨w.heap.size, 3, none⟩ = some (.int .i64 x) ∧ W.cell? ⟨w.heap.size, 4, none⟩ = some (.int .i64 y) ∧ W.cell? ⟨w.heap.size, 5, none⟩ = some (.int .i64 0) ∧ W.cell? ⟨w.heap.size, 6, none⟩ = some (.int .i64 lo) ∧ W.cell? ⟨w.heap.size, 7, none⟩ = some (.int .i64 hi) ∧ W.cell? ⟨w.heap.size, 8, none⟩ = some (.slice none 0 0)) ∧ Below W0.heap.size W0 W)
    (first | with_reducible exact HALL.out _ B2 | with_reducible exact HALL.out _ hB | with_reducible exact HALL.out _ hB.drew)
    (first
      | (go_at_call 162; (with_reducible refine (inner2 _).mono ?_); rintro e w' ⟨rfl, rfl⟩)
      | (go_at_call 163; (with_reducible refine (HX.out _).mono ?_); rintro e v2 ⟨rfl, hb2⟩; (first | (with_reducible have B2 := hB.drew.nx hb2) | (with_reducible have B2 := hB.nx hb2)))
      | fail)
  all_goals
    have hw := HB.out.nx B2
    go_wp2
    go_ret2
    exact ⟨rfl, hw⟩
set_option maxRecDepth 100000 in
set_option maxHeartbeats 4000000 in
theorem Least2 (x y lo hi : Int) (HF : ∀ W, Calls Tryz.prog 101 #[.agg #[.string ⟨#[72]⟩, .int .i64 2, .int .i64 2, .int .i64 x, .int .i64 y, .int .i64 0, .int .i64 lo, .int .i64 hi, .slice none 0 0]] W (Ret W (.int .i64 0))) (w : World) : Calls Tryz.prog 110 #[.agg #[.string ⟨#[72]⟩, .int .i64 2, .int .i64 2, .int .i64 x, .int .i64 y, .int .i64 0, .int .i64 lo, .int .i64 hi, .slice none 0 0]] w (Ret w (.tuple #[.int .i64 lo, .int .i64 0])) := by
  have HX := Lib.hid (fun W => extr2true x y lo hi HF W)
  have HB := Lib.hid (below_al w (.cells #[.string ⟨#[72]⟩, .int .i64 2, .int .i64 2, .int .i64 x, .int .i64 y, .int .i64 0, .int .i64 lo, .int .i64 hi, .slice none 0 0] 28))
  have HN := Lib.hid (heap_alloc_new w (.cells #[.string ⟨#[72]⟩, .int .i64 2, .int .i64 2, .int .i64 x, .int .i64 y, .int .i64 0, .int .i64 lo, .int .i64 hi, .slice none 0 0] 28))
  clear HF
  go_enter Tryz.func110, Tryz.ntmps110
  go_upto_region 1 with fail
  generalize w.alloc (.cells #[.string ⟨#[72]⟩, .int .i64 2, .int .i64 2, .int .i64 x, .int .i64 y, .int .i64 0, .int .i64 lo, .int .i64 hi, .slice none 0 0] 28) = W0 at *
  have HALL := Lib.hid (fun (W : World) (h : Below W0.heap.size W0 W) => by
    obtain ⟨d0, d1, d2, d3, d4, d5, d6, d7, d8⟩ := c9row (keepD HN.out h)
    exact (⟨⟨d0, d1, d2, d3, d4, d5, d6, d7, d8⟩, h⟩ : (W.cell? ⟨w.heap.size, 0, none⟩ = some (.string ⟨#[72]⟩) ∧ W.cell? ⟨w.heap.size, 1, none⟩ = some (.int .i64 2) ∧ W.cell? ⟨w.heap.size, 2, none⟩ = some (.int .i64 2) ∧ W.cell? ⟨w.heap.size, 3, none⟩ = some (.int .i64 x) ∧ W.cell? ⟨w.heap.size, 4, none⟩ = some (.int .i64 y) ∧ W.cell? ⟨w.heap.size, 5, none⟩ = some (.int .i64 0) ∧ W.cell? ⟨w.heap.size, 6, none⟩ = some (.int .i64 lo) ∧ W.cell? ⟨w.heap.size, 7, none⟩ = some (.int .i64 hi) ∧ W.cell? ⟨w.heap.size, 8, none⟩ = some (.slice none 0 0)) ∧ Below W0.heap.size W0 W))
  have hB : Below W0.heap.size W0 W0 := Below.refl _ _
  go_region_held3 (fun W => (W.cell? ⟨w.heap.size, 0, none⟩ = some (.string ⟨#[72]⟩) ∧ W.cell? ⟨w.heap.size, 1, none⟩ = some (.int .i64 2) ∧ W.cell? ⟨w.heap.size, 2, none⟩ = some (.int .i64 2) ∧ W.cell? ⟨w.heap.size, 3, none⟩ = some (.int .i64 x) ∧ W.cell? ⟨w.heap.size, 4, none⟩ = some (.int .i64 y) ∧ W.cell? ⟨w.heap.size, 5, none⟩ = some (.int .i64 0) ∧ W.cell? ⟨w.heap.size, 6, none⟩ = some (.int .i64 lo) ∧ W.cell? ⟨w.heap.size, 7, none⟩ = some (.int .i64 hi) ∧ W.cell? ⟨w.heap.size, 8, none⟩ = some (.slice none 0 0)) ∧ Below W0.heap.size W0 W)
    (first | with_reducible exact HALL.out _ B2 | with_reducible exact HALL.out _ hB | with_reducible exact HALL.out _ hB.drew)
    (first
      | (go_at_call 162; (with_reducible refine (inner2 _).mono ?_); rintro e w' ⟨rfl, rfl⟩)
      | (go_at_call 163; (with_reducible refine (HX.out _).mono ?_); rintro e v2 ⟨rfl, hb2⟩; (first | (with_reducible have B2 := hB.drew.nx hb2) | (with_reducible have B2 := hB.nx hb2)))
      | fail)
  all_goals
    have hw := HB.out.nx B2
    go_wp2
    go_ret2
    exact ⟨rfl, hw⟩
set_option maxHeartbeats 2000000 in
theorem Inner2 (x y lo hi : Int) (HF : ∀ W, Calls Tryz.prog 101 #[.agg #[.string ⟨#[72]⟩, .int .i64 2, .int .i64 2, .int .i64 x, .int .i64 y, .int .i64 0, .int .i64 lo, .int .i64 hi, .slice none 0 0]] W (Ret W (.int .i64 0))) (w : World) : Calls Tryz.prog 108 #[.agg #[.string ⟨#[72]⟩, .int .i64 2, .int .i64 2, .int .i64 x, .int .i64 y, .int .i64 0, .int .i64 lo, .int .i64 hi, .slice none 0 0]] w (Ret w (.tuple #[.bool false, .int .i64 0])) := by
  have H := Lib.hid HF
  have hal := below_al w (.cells #[.string ⟨#[72]⟩, .int .i64 2, .int .i64 2, .int .i64 x, .int .i64 y, .int .i64 0, .int .i64 lo, .int .i64 hi, .slice none 0 0] 28)
  have hr := heap_alloc_new w (.cells #[.string ⟨#[72]⟩, .int .i64 2, .int .i64 2, .int .i64 x, .int .i64 y, .int .i64 0, .int .i64 lo, .int .i64 hi, .slice none 0 0] 28)
  clear HF
  go_enter Tryz.func108, Tryz.ntmps108
  go_wp2_with fail
  ((with_reducible refine (H.out _).mono ?_); rintro e w1 ⟨rfl, hb1⟩)
  obtain ⟨c0, c1, c2, c3, c4, c5, c6, c7, c8⟩ := c9row (keepD hr hb1)
  have hw := hal.nx hb1
  clear hal hr hb1 H
  go_wp2_with fail
  ((with_reducible refine (inner2 _).mono ?_); rintro e w' ⟨rfl, rfl⟩)
  go_wp2
  go_ret2
  exact ⟨rfl, hw⟩
set_option maxRecDepth 100000 in
set_option maxHeartbeats 4000000 in
theorem material21 (x y lo hi tol : Int) (HF : ∀ W, Calls Tryz.prog 101 #[.agg #[.string ⟨#[72]⟩, .int .i64 2, .int .i64 2, .int .i64 x, .int .i64 y, .int .i64 0, .int .i64 lo, .int .i64 hi, .slice none 0 0]] W (Ret W (.int .i64 0))) (w : World) : Calls Tryz.prog 58 #[.agg #[.string ⟨#[72]⟩, .int .i64 2, .int .i64 2, .int .i64 x, .int .i64 y, .int .i64 0, .int .i64 lo, .int .i64 hi, .slice none 0 0], .agg #[.int .i64 8, .bool true, .int .i64 tol, .int .i64 1, .slice none 0 0]] w (Ret w (.tuple #[.int .i64 hi, .bool false, .int .i64 0])) := by
  have HI := Lib.hid (fun W => Inner2 x y lo hi HF W)
  have HM := Lib.hid (fun W => Maximum2 x y lo hi HF W)
  have hal := bxx w (.cells #[.string ⟨#[72]⟩, .int .i64 2, .int .i64 2, .int .i64 x, .int .i64 y, .int .i64 0, .int .i64 lo, .int .i64 hi, .slice none 0 0] 28) (.cells #[.int .i64 8, .bool true, .int .i64 tol, .int .i64 1, .slice none 0 0] 31)
  have hR := nww w (.cells #[.string ⟨#[72]⟩, .int .i64 2, .int .i64 2, .int .i64 x, .int .i64 y, .int .i64 0, .int .i64 lo, .int .i64 hi, .slice none 0 0] 28) #[.int .i64 8, .bool true, .int .i64 tol, .int .i64 1, .slice none 0 0] 31
  have hA := keepD (heap_alloc_new w (.cells #[.string ⟨#[72]⟩, .int .i64 2, .int .i64 2, .int .i64 x, .int .i64 y, .int .i64 0, .int .i64 lo, .int .i64 hi, .slice none 0 0] 28)) (below_al _ (.cells #[.int .i64 8, .bool true, .int .i64 tol, .int .i64 1, .slice none 0 0] 31))
  clear HF
  go_enter Tryz.func58, Tryz.ntmps58
  go_wp2_with fail
  ((with_reducible refine (HI.out _).mono ?_); rintro e w1 ⟨rfl, hb1⟩)
  obtain ⟨c0, c1, c2, c3, c4, c5, c6, c7, c8⟩ := c9row (keepD hA hb1)
  obtain ⟨d0, d1, d2, d3, d4⟩ := c5row (keepD hR hb1)
  have HW := Lib.hid (hal.nx hb1)
  clear hal hR hA hb1 HI
  go_wp2_with fail
  ((with_reducible refine (HM.out _).mono ?_); rintro e w2 ⟨rfl, hb2⟩)
  have hw := HW.out.nx hb2
  clear hb2 HM HW c0 c1 c2 c3 c4 c5 c6 c7 c8 d0 d1 d2 d3 d4
  go_wp2
  go_ret3
  exact ⟨rfl, hw⟩
set_option maxRecDepth 100000 in
set_option maxHeartbeats 4000000 in
theorem frBonus21 (x y lo hi tol n : Int) (_r1 : 1 ≤ lo) (_r2 : hi ≤ 100000) (h0 : lo ≤ n) (h1 : n ≤ hi) (HF : ∀ W, Calls Tryz.prog 101 #[.agg #[.string ⟨#[72]⟩, .int .i64 2, .int .i64 2, .int .i64 x, .int .i64 y, .int .i64 0, .int .i64 lo, .int .i64 hi, .slice none 0 0]] W (Ret W (.int .i64 0)))
    (HX : ∀ W, Calls Tryz.prog 57 #[.agg #[.string ⟨#[72]⟩, .int .i64 2, .int .i64 2, .int .i64 x, .int .i64 y, .int .i64 0, .int .i64 lo, .int .i64 hi, .slice none 0 0], .agg #[.int .i64 8, .bool true, .int .i64 tol, .int .i64 1, .slice none 0 0]] W (Ret W (.int .i64 0))) (w : World) : Calls Tryz.prog 18 #[.agg #[.string ⟨#[72]⟩, .int .i64 2, .int .i64 2, .int .i64 x, .int .i64 y, .int .i64 0, .int .i64 lo, .int .i64 hi, .slice none 0 0], .agg #[.int .i64 8, .bool true, .int .i64 tol, .int .i64 1, .slice none 0 0], .int .i64 n] w (Ret w (.tuple #[.int .i64 (hi - n), .int .i64 0])) := by
  have HC := Lib.hid HX
  have HM := Lib.hid (fun W => material21 x y lo hi tol HF W)
  have hal := bxx w (.cells #[.string ⟨#[72]⟩, .int .i64 2, .int .i64 2, .int .i64 x, .int .i64 y, .int .i64 0, .int .i64 lo, .int .i64 hi, .slice none 0 0] 28) (.cells #[.int .i64 8, .bool true, .int .i64 tol, .int .i64 1, .slice none 0 0] 31)
  have hR := nww w (.cells #[.string ⟨#[72]⟩, .int .i64 2, .int .i64 2, .int .i64 x, .int .i64 y, .int .i64 0, .int .i64 lo, .int .i64 hi, .slice none 0 0] 28) #[.int .i64 8, .bool true, .int .i64 tol, .int .i64 1, .slice none 0 0] 31
  have hA := keepD (heap_alloc_new w (.cells #[.string ⟨#[72]⟩, .int .i64 2, .int .i64 2, .int .i64 x, .int .i64 y, .int .i64 0, .int .i64 lo, .int .i64 hi, .slice none 0 0] 28)) (below_al _ (.cells #[.int .i64 8, .bool true, .int .i64 tol, .int .i64 1, .slice none 0 0] 31))
  have e1 : IntKind.i64.wrap (hi - n) = hi - n := IntWalk.i64_in _ (by omega)
  have e2 : IntKind.i64.wrap (n - hi) = n - hi := IntWalk.i64_in _ (by omega)
  have HMX : Hid (∀ ts t W, (Builtin.max_ ts t #[.int .i64 (hi - n), .int .i64 (n - hi)]).run Tryz.prog W = .ok (.int .i64 (hi - n)) W) := Lib.hid (fun ts t W => by
    rw [run_max_ints2]
    congr 2
    omega)
  clear HF HX
  go_enter Tryz.func18, Tryz.ntmps18
  go_wp2_with fail
  ((with_reducible refine (HC.out _).mono ?_); rintro e w1 ⟨rfl, hb1⟩)
  have RA := Lib.hid (keepD hA hb1)
  have RB := Lib.hid (keepD hR hb1)
  obtain ⟨c0, c1, c2, c3, c4, c5, c6, c7, c8⟩ := c9row RA.out
  obtain ⟨d0, d1, d2, d3, d4⟩ := c5row RB.out
  have HW := Lib.hid (hal.nx hb1)
  clear hal hR hA hb1 HC
  go_wp2_with fail
  ((with_reducible refine (HM.out _).mono ?_); rintro e w2 ⟨rfl, hb2⟩)
  have hw := HW.out.nx hb2
  have hmx := HMX.out
  clear hb2 HM HW c0 c1 c2 c3 c4 c5 c6 c7 c8 d0 d1 d2 d3 d4 RA RB HMX
  go_wp2
  go_ret2
  exact ⟨rfl, hw⟩
set_option maxRecDepth 100000 in
set_option maxHeartbeats 4000000 in
theorem frVirtual21 (x y lo hi tol : Int) (_r1 : 1 ≤ lo ∧ lo ≤ 100000) (_r2 : 1 ≤ hi ∧ hi ≤ 100000) (r3 : 0 ≤ tol ∧ tol ≤ 100000) (HF : ∀ W, Calls Tryz.prog 101 #[.agg #[.string ⟨#[72]⟩, .int .i64 2, .int .i64 2, .int .i64 x, .int .i64 y, .int .i64 0, .int .i64 lo, .int .i64 hi, .slice none 0 0]] W (Ret W (.int .i64 0)))
    (HX : ∀ W, Calls Tryz.prog 57 #[.agg #[.string ⟨#[72]⟩, .int .i64 2, .int .i64 2, .int .i64 x, .int .i64 y, .int .i64 0, .int .i64 lo, .int .i64 hi, .slice none 0 0], .agg #[.int .i64 8, .bool true, .int .i64 tol, .int .i64 1, .slice none 0 0]] W (Ret W (.int .i64 0))) (w : World) : Calls Tryz.prog 21 #[.agg #[.string ⟨#[72]⟩, .int .i64 2, .int .i64 2, .int .i64 x, .int .i64 y, .int .i64 0, .int .i64 lo, .int .i64 hi, .slice none 0 0], .agg #[.int .i64 8, .bool true, .int .i64 tol, .int .i64 1, .slice none 0 0]] w (Ret w (.tuple #[.int .i64 (hi + tol), .int .i64 0])) := by
  have HC := Lib.hid HX
  have HM := Lib.hid (fun W => material21 x y lo hi tol HF W)
  have hal := bxx w (.cells #[.string ⟨#[72]⟩, .int .i64 2, .int .i64 2, .int .i64 x, .int .i64 y, .int .i64 0, .int .i64 lo, .int .i64 hi, .slice none 0 0] 28) (.cells #[.int .i64 8, .bool true, .int .i64 tol, .int .i64 1, .slice none 0 0] 31)
  have hR := nww w (.cells #[.string ⟨#[72]⟩, .int .i64 2, .int .i64 2, .int .i64 x, .int .i64 y, .int .i64 0, .int .i64 lo, .int .i64 hi, .slice none 0 0] 28) #[.int .i64 8, .bool true, .int .i64 tol, .int .i64 1, .slice none 0 0] 31
  have hA := keepD (heap_alloc_new w (.cells #[.string ⟨#[72]⟩, .int .i64 2, .int .i64 2, .int .i64 x, .int .i64 y, .int .i64 0, .int .i64 lo, .int .i64 hi, .slice none 0 0] 28)) (below_al _ (.cells #[.int .i64 8, .bool true, .int .i64 tol, .int .i64 1, .slice none 0 0] 31))
  have e1 : IntKind.i64.wrap (hi + tol) = hi + tol := IntWalk.i64_in _ (by omega)
  clear HF HX _r1 _r2 r3
  go_enter Tryz.func21, Tryz.ntmps21
  go_wp2_with fail
  ((with_reducible refine (HC.out _).mono ?_); rintro e w1 ⟨rfl, hb1⟩)
  have RA := Lib.hid (keepD hA hb1)
  have RB := Lib.hid (keepD hR hb1)
  obtain ⟨c0, c1, c2, c3, c4, c5, c6, c7, c8⟩ := c9row RA.out
  obtain ⟨d0, d1, d2, d3, d4⟩ := c5row RB.out
  have HW := Lib.hid (hal.nx hb1)
  clear hal hR hA hb1 HC
  go_wp2_with fail
  ((with_reducible refine (HM.out _).mono ?_); rintro e w2 ⟨rfl, hb2⟩)
  have hw := HW.out.nx hb2
  have RB2 := Lib.hid (keepD RB.out hb2)
  clear hb2 HM HW c0 c1 c2 c3 c4 c5 c6 c7 c8 d0 d1 d2 d3 d4 RA RB
  obtain ⟨d0, d1, d2, d3, d4⟩ := c5row RB2.out
  go_wp2
  go_ret2
  exact ⟨rfl, hw⟩
set_option maxRecDepth 100000 in
set_option maxHeartbeats 4000000 in
theorem material22 (x y lo hi tol : Int) (HF : ∀ W, Calls Tryz.prog 101 #[.agg #[.string ⟨#[72]⟩, .int .i64 2, .int .i64 2, .int .i64 x, .int .i64 y, .int .i64 0, .int .i64 lo, .int .i64 hi, .slice none 0 0]] W (Ret W (.int .i64 0))) (w : World) : Calls Tryz.prog 58 #[.agg #[.string ⟨#[72]⟩, .int .i64 2, .int .i64 2, .int .i64 x, .int .i64 y, .int .i64 0, .int .i64 lo, .int .i64 hi, .slice none 0 0], .agg #[.int .i64 8, .bool true, .int .i64 tol, .int .i64 2, .slice none 0 0]] w (Ret w (.tuple #[.int .i64 lo, .bool false, .int .i64 0])) := by
  have HI := Lib.hid (fun W => Inner2 x y lo hi HF W)
  have HM := Lib.hid (fun W => Least2 x y lo hi HF W)
  have hal := bxx w (.cells #[.string ⟨#[72]⟩, .int .i64 2, .int .i64 2, .int .i64 x, .int .i64 y, .int .i64 0, .int .i64 lo, .int .i64 hi, .slice none 0 0] 28) (.cells #[.int .i64 8, .bool true, .int .i64 tol, .int .i64 2, .slice none 0 0] 31)
  have hR := nww w (.cells #[.string ⟨#[72]⟩, .int .i64 2, .int .i64 2, .int .i64 x, .int .i64 y, .int .i64 0, .int .i64 lo, .int .i64 hi, .slice none 0 0] 28) #[.int .i64 8, .bool true, .int .i64 tol, .int .i64 2, .slice none 0 0] 31
  have hA := keepD (heap_alloc_new w (.cells #[.string ⟨#[72]⟩, .int .i64 2, .int .i64 2, .int .i64 x, .int .i64 y, .int .i64 0, .int .i64 lo, .int .i64 hi, .slice none 0 0] 28)) (below_al _ (.cells #[.int .i64 8, .bool true, .int .i64 tol, .int .i64 2, .slice none 0 0] 31))
  clear HF
  go_enter Tryz.func58, Tryz.ntmps58
  go_wp2_with fail
  ((with_reducible refine (HI.out _).mono ?_); rintro e w1 ⟨rfl, hb1⟩)
  obtain ⟨c0, c1, c2, c3, c4, c5, c6, c7, c8⟩ := c9row (keepD hA hb1)
  obtain ⟨d0, d1, d2, d3, d4⟩ := c5row (keepD hR hb1)
  have HW := Lib.hid (hal.nx hb1)
  clear hal hR hA hb1 HI
  go_wp2_with fail
  ((with_reducible refine (HM.out _).mono ?_); rintro e w2 ⟨rfl, hb2⟩)
  have hw := HW.out.nx hb2
  clear hb2 HM HW c0 c1 c2 c3 c4 c5 c6 c7 c8 d0 d1 d2 d3 d4
  go_wp2
  go_ret3
  exact ⟨rfl, hw⟩
set_option maxRecDepth 100000 in
set_option maxHeartbeats 4000000 in
theorem frBonus22 (x y lo hi tol n : Int) (_r1 : 1 ≤ lo) (_r2 : hi ≤ 100000) (h0 : lo ≤ n) (h1 : n ≤ hi) (HF : ∀ W, Calls Tryz.prog 101 #[.agg #[.string ⟨#[72]⟩, .int .i64 2, .int .i64 2, .int .i64 x, .int .i64 y, .int .i64 0, .int .i64 lo, .int .i64 hi, .slice none 0 0]] W (Ret W (.int .i64 0)))
    (HX : ∀ W, Calls Tryz.prog 57 #[.agg #[.string ⟨#[72]⟩, .int .i64 2, .int .i64 2, .int .i64 x, .int .i64 y, .int .i64 0, .int .i64 lo, .int .i64 hi, .slice none 0 0], .agg #[.int .i64 8, .bool true, .int .i64 tol, .int .i64 2, .slice none 0 0]] W (Ret W (.int .i64 0))) (w : World) : Calls Tryz.prog 18 #[.agg #[.string ⟨#[72]⟩, .int .i64 2, .int .i64 2, .int .i64 x, .int .i64 y, .int .i64 0, .int .i64 lo, .int .i64 hi, .slice none 0 0], .agg #[.int .i64 8, .bool true, .int .i64 tol, .int .i64 2, .slice none 0 0], .int .i64 n] w (Ret w (.tuple #[.int .i64 (n - lo), .int .i64 0])) := by
  have HC := Lib.hid HX
  have HM := Lib.hid (fun W => material22 x y lo hi tol HF W)
  have hal := bxx w (.cells #[.string ⟨#[72]⟩, .int .i64 2, .int .i64 2, .int .i64 x, .int .i64 y, .int .i64 0, .int .i64 lo, .int .i64 hi, .slice none 0 0] 28) (.cells #[.int .i64 8, .bool true, .int .i64 tol, .int .i64 2, .slice none 0 0] 31)
  have hR := nww w (.cells #[.string ⟨#[72]⟩, .int .i64 2, .int .i64 2, .int .i64 x, .int .i64 y, .int .i64 0, .int .i64 lo, .int .i64 hi, .slice none 0 0] 28) #[.int .i64 8, .bool true, .int .i64 tol, .int .i64 2, .slice none 0 0] 31
  have hA := keepD (heap_alloc_new w (.cells #[.string ⟨#[72]⟩, .int .i64 2, .int .i64 2, .int .i64 x, .int .i64 y, .int .i64 0, .int .i64 lo, .int .i64 hi, .slice none 0 0] 28)) (below_al _ (.cells #[.int .i64 8, .bool true, .int .i64 tol, .int .i64 2, .slice none 0 0] 31))
  have e1 : IntKind.i64.wrap (lo - n) = lo - n := IntWalk.i64_in _ (by omega)
  have e2 : IntKind.i64.wrap (n - lo) = n - lo := IntWalk.i64_in _ (by omega)
  have HMX : Hid (∀ ts t W, (Builtin.max_ ts t #[.int .i64 (lo - n), .int .i64 (n - lo)]).run Tryz.prog W = .ok (.int .i64 (n - lo)) W) := Lib.hid (fun ts t W => by
    rw [run_max_ints2]
    congr 2
    omega)
  clear HF HX
  go_enter Tryz.func18, Tryz.ntmps18
  go_wp2_with fail
  ((with_reducible refine (HC.out _).mono ?_); rintro e w1 ⟨rfl, hb1⟩)
  have RA := Lib.hid (keepD hA hb1)
  have RB := Lib.hid (keepD hR hb1)
  obtain ⟨c0, c1, c2, c3, c4, c5, c6, c7, c8⟩ := c9row RA.out
  obtain ⟨d0, d1, d2, d3, d4⟩ := c5row RB.out
  have HW := Lib.hid (hal.nx hb1)
  clear hal hR hA hb1 HC
  go_wp2_with fail
  ((with_reducible refine (HM.out _).mono ?_); rintro e w2 ⟨rfl, hb2⟩)
  have hw := HW.out.nx hb2
  have hmx := HMX.out
  clear hb2 HM HW c0 c1 c2 c3 c4 c5 c6 c7 c8 d0 d1 d2 d3 d4 RA RB HMX
  go_wp2
  go_ret2
  exact ⟨rfl, hw⟩
set_option maxRecDepth 100000 in
set_option maxHeartbeats 4000000 in
theorem frVirtual22 (x y lo hi tol : Int) (_r1 : 1 ≤ lo ∧ lo ≤ 100000) (_r2 : 1 ≤ hi ∧ hi ≤ 100000) (r3 : 0 ≤ tol ∧ tol ≤ 100000) (HF : ∀ W, Calls Tryz.prog 101 #[.agg #[.string ⟨#[72]⟩, .int .i64 2, .int .i64 2, .int .i64 x, .int .i64 y, .int .i64 0, .int .i64 lo, .int .i64 hi, .slice none 0 0]] W (Ret W (.int .i64 0)))
    (HX : ∀ W, Calls Tryz.prog 57 #[.agg #[.string ⟨#[72]⟩, .int .i64 2, .int .i64 2, .int .i64 x, .int .i64 y, .int .i64 0, .int .i64 lo, .int .i64 hi, .slice none 0 0], .agg #[.int .i64 8, .bool true, .int .i64 tol, .int .i64 2, .slice none 0 0]] W (Ret W (.int .i64 0))) (w : World) : Calls Tryz.prog 21 #[.agg #[.string ⟨#[72]⟩, .int .i64 2, .int .i64 2, .int .i64 x, .int .i64 y, .int .i64 0, .int .i64 lo, .int .i64 hi, .slice none 0 0], .agg #[.int .i64 8, .bool true, .int .i64 tol, .int .i64 2, .slice none 0 0]] w (Ret w (.tuple #[.int .i64 (lo - tol), .int .i64 0])) := by
  have HC := Lib.hid HX
  have HM := Lib.hid (fun W => material22 x y lo hi tol HF W)
  have hal := bxx w (.cells #[.string ⟨#[72]⟩, .int .i64 2, .int .i64 2, .int .i64 x, .int .i64 y, .int .i64 0, .int .i64 lo, .int .i64 hi, .slice none 0 0] 28) (.cells #[.int .i64 8, .bool true, .int .i64 tol, .int .i64 2, .slice none 0 0] 31)
  have hR := nww w (.cells #[.string ⟨#[72]⟩, .int .i64 2, .int .i64 2, .int .i64 x, .int .i64 y, .int .i64 0, .int .i64 lo, .int .i64 hi, .slice none 0 0] 28) #[.int .i64 8, .bool true, .int .i64 tol, .int .i64 2, .slice none 0 0] 31
  have hA := keepD (heap_alloc_new w (.cells #[.string ⟨#[72]⟩, .int .i64 2, .int .i64 2, .int .i64 x, .int .i64 y, .int .i64 0, .int .i64 lo, .int .i64 hi, .slice none 0 0] 28)) (below_al _ (.cells #[.int .i64 8, .bool true, .int .i64 tol, .int .i64 2, .slice none 0 0] 31))
  have e1 : IntKind.i64.wrap (lo - tol) = lo - tol := IntWalk.i64_in _ (by omega)
  clear HF HX _r1 _r2 r3
  go_enter Tryz.func21, Tryz.ntmps21
  go_wp2_with fail
  ((with_reducible refine (HC.out _).mono ?_); rintro e w1 ⟨rfl, hb1⟩)
  have RA := Lib.hid (keepD hA hb1)
  have RB := Lib.hid (keepD hR hb1)
  obtain ⟨c0, c1, c2, c3, c4, c5, c6, c7, c8⟩ := c9row RA.out
  obtain ⟨d0, d1, d2, d3, d4⟩ := c5row RB.out
  have HW := Lib.hid (hal.nx hb1)
  clear hal hR hA hb1 HC
  go_wp2_with fail
  ((with_reducible refine (HM.out _).mono ?_); rintro e w2 ⟨rfl, hb2⟩)
  have hw := HW.out.nx hb2
  have RB2 := Lib.hid (keepD RB.out hb2)
  clear hb2 HM HW c0 c1 c2 c3 c4 c5 c6 c7 c8 d0 d1 d2 d3 d4 RA RB
  obtain ⟨d0, d1, d2, d3, d4⟩ := c5row RB2.out
  go_wp2
  go_ret2
  exact ⟨rfl, hw⟩
/-- The frame of a feature has the bonus of its target. -/
theorem frBonus_ok (t : Tg) (R : TgR t) (hm : t.mat ≠ 0) (hz : t.tol = 0 → t.mat = 1) (n : Int) (hi : insT t n = true) (w : World) : Calls Tryz.prog 18 #[ftV (fkT t) (.slice none 0 0), frV (xkT t) (.slice none 0 0), .int .i64 n] w (Ret w (.tuple #[.int .i64 (extT t n), .int .i64 0])) := by
  have HF := fun W => feaK R W
  have HX := fun W => frK R hz W
  obtain ⟨h0, h1⟩ := insT_in hi
  have r1 := R.lo
  have r2 := R.hi
  have r3 := R.mat
  obtain ⟨x, y, lo, hi2, tol, mat, pin⟩ := t
  simp only at h0 h1 r1 r2 r3 hm
  rcases (by omega : mat = 1 ∨ mat = 2) with rfl | rfl <;> cases pin
  · exact frBonus11 x y lo hi2 tol n r1.1 r2.2 h0 h1 HF HX w
  · exact frBonus21 x y lo hi2 tol n r1.1 r2.2 h0 h1 HF HX w
  · exact frBonus12 x y lo hi2 tol n r1.1 r2.2 h0 h1 HF HX w
  · exact frBonus22 x y lo hi2 tol n r1.1 r2.2 h0 h1 HF HX w
theorem frVirtual_ok (t : Tg) (R : TgR t) (hm : t.mat ≠ 0) (hz : t.tol = 0 → t.mat = 1) (w : World) : Calls Tryz.prog 21 #[ftV (fkT t) (.slice none 0 0), frV (xkT t) (.slice none 0 0)] w (Ret w (.tuple #[.int .i64 (virT t), .int .i64 0])) := by
  have HF := fun W => feaK R W
  have HX := fun W => frK R hz W
  have r1 := R.lo
  have r2 := R.hi
  have r3 := R.mat
  have r4 := R.tol
  obtain ⟨x, y, lo, hi2, tol, mat, pin⟩ := t
  simp only at r1 r2 r3 r4 hm
  rcases (by omega : mat = 1 ∨ mat = 2) with rfl | rfl <;> cases pin
  · exact frVirtual11 x y lo hi2 tol r1 r2 r4 HF HX w
  · exact frVirtual21 x y lo hi2 tol r1 r2 r4 HF HX w
  · exact frVirtual12 x y lo hi2 tol r1 r2 r4 HF HX w
  · exact frVirtual22 x y lo hi2 tol r1 r2 r4 HF HX w
end Go.Proofs.Wk
/- BONUS: the example. -/
namespace Go.Proofs.Wk
open Go.RowKit Mt Po

set_option maxRecDepth 100000 in
set_option maxHeartbeats 2000000 in
theorem tmadeB_c (t : TT) (w : World) : Calls Tryz.prog 91 #[ttV t] w (Ret w (ttV t)) := by
  obtain ⟨a0, a1, a2, b0, b1, b2⟩ := t
  go_enter Tryz.func91, Tryz.ntmps91
  go_wp2
  refine bodyPost_ret (results_cell_row rfl _ _ (w.heap.size + 1) 38 #[.string ⟨a0.toArray⟩, .string ⟨a1.toArray⟩, .string ⟨a2.toArray⟩, .string ⟨b0.toArray⟩, .string ⟨b1.toArray⟩, .string ⟨b2.toArray⟩] (0, 0) _ (by kernel_rfl) (nw2 w _ _ _ _) Tryz.underlying38 rfl (by kernel_rfl)) rfl ?_
  exact ⟨rfl, bx2 w _ _⟩
set_option maxRecDepth 100000 in
set_option maxHeartbeats 2000000 in
theorem tzero_c (w : World) : Calls Tryz.prog 56 #[] w (Ret w (ttV zTT')) := by
  have HM := Lib.hid (fun W => tmadeB_c zTT' W)
  have hA := below_al w (.cells #[.string ⟨#[]⟩, .string ⟨#[]⟩, .string ⟨#[]⟩, .string ⟨#[]⟩, .string ⟨#[]⟩, .string ⟨#[]⟩] 38)
  have hr := heap_alloc_new w (.cells #[.string ⟨#[]⟩, .string ⟨#[]⟩, .string ⟨#[]⟩, .string ⟨#[]⟩, .string ⟨#[]⟩, .string ⟨#[]⟩] 38)
  go_enter Tryz.func56, Tryz.ntmps56
  go_wp2_with fail
  ((with_reducible refine (HM.out _).mono ?_); rintro e w1 ⟨rfl, hb1⟩)
  have hr2 := keepD hr hb1
  have HW := Lib.hid (hA.nx hb1)
  have hf := fun j => free_row hr2 j
  obtain ⟨z0, z1, z2, z3, z4, z5⟩ := c6row hr2
  have HR := Lib.hid hr2
  clear hr2 hA hr hb1
  go_wp2
  refine bodyPost_ret (results_cell_row rfl _ _ w.heap.size 38 (ttC zTT') _ _ (by kernel_rfl) (s6row HR.out) Tryz.underlying38 rfl (by kernel_rfl)) rfl ?_
  exact ⟨rfl, (((((HW.out.cel (p := ⟨w.heap.size, 0, none⟩) (Nat.le_refl _) _).cel (p := ⟨w.heap.size, 1, none⟩) (Nat.le_refl _) _).cel (p := ⟨w.heap.size, 2, none⟩) (Nat.le_refl _) _).cel (p := ⟨w.heap.size, 3, none⟩) (Nat.le_refl _) _).cel (p := ⟨w.heap.size, 4, none⟩) (Nat.le_refl _) _).cel (p := ⟨w.heap.size, 5, none⟩) (Nat.le_refl _) _⟩
def hoT : Tg := ⟨0, 0, 100, 106, 4, 1, false⟩
set_option maxHeartbeats 2000000 in
theorem hole44_c (w : World) : Calls Tryz.prog 55 #[.int .i64 1] w (Ret w (tgV hoT)) := by
  have hA := below_al w (.cells #[.int .i64 0, .int .i64 0, .int .i64 100, .int .i64 106, .int .i64 4, .int .i64 1, .bool false] 56)
  have hr := heap_alloc_new w (.cells #[.int .i64 0, .int .i64 0, .int .i64 100, .int .i64 106, .int .i64 4, .int .i64 1, .bool false] 56)
  go_enter Tryz.func55, Tryz.ntmps55
  go_wp2
  refine bodyPost_ret (results_cell_row rfl _ _ w.heap.size 56 (tgC hoT) _ _ (by kernel_rfl) hr Tryz.underlying56 rfl (by kernel_rfl)) rfl ?_
  exact ⟨rfl, hA⟩
set_option maxRecDepth 100000 in
set_option maxHeartbeats 4000000 in
theorem caseFeature_c (t : Tg) (w : World) : Calls Tryz.prog 19 #[tgV t] w (Ret w (ftV (fkT t) (.slice none 0 0))) := by
  obtain ⟨x, y, lo, hi, tol, mat, pin⟩ := t
  cases pin with
  | false =>
    show Calls _ _ _ _ (Ret w (.agg #[.string ⟨#[72]⟩, .int .i64 1, .int .i64 2, .int .i64 x, .int .i64 y, .int .i64 0, .int .i64 lo, .int .i64 hi, .slice none 0 0]))
    have hA := ((below_al w (.cells #[.int .i64 x, .int .i64 y, .int .i64 lo, .int .i64 hi, .int .i64 tol, .int .i64 mat, .bool false] 56)).nx (below_al _ (.cells #[.string ⟨#[72]⟩, .int .i64 1, .int .i64 2, .int .i64 x, .int .i64 y, .int .i64 0, .int .i64 lo, .int .i64 hi, .slice none 0 0] 28))).nx (below_al _ (.cells #[.string ⟨#[72]⟩, .int .i64 1, .int .i64 2, .int .i64 x, .int .i64 y, .int .i64 0, .int .i64 lo, .int .i64 hi, .slice none 0 0] 28))
    have hr := nww w (.cells #[.int .i64 x, .int .i64 y, .int .i64 lo, .int .i64 hi, .int .i64 tol, .int .i64 mat, .bool false] 56) #[.string ⟨#[72]⟩, .int .i64 1, .int .i64 2, .int .i64 x, .int .i64 y, .int .i64 0, .int .i64 lo, .int .i64 hi, .slice none 0 0] 28
    have hr2 := keepD hr (below_al _ (.cells #[.string ⟨#[72]⟩, .int .i64 1, .int .i64 2, .int .i64 x, .int .i64 y, .int .i64 0, .int .i64 lo, .int .i64 hi, .slice none 0 0] 28))
    go_enter Tryz.func19, Tryz.ntmps19
    go_wp2
    refine bodyPost_ret (results_cell_row rfl _ _ (w.heap.size + 1) 28 #[.string ⟨#[72]⟩, .int .i64 1, .int .i64 2, .int .i64 x, .int .i64 y, .int .i64 0, .int .i64 lo, .int .i64 hi, .slice none 0 0] _ _ (by kernel_rfl) hr2 Tryz.underlying28 rfl (by kernel_rfl)) rfl ?_
    exact ⟨rfl, hA⟩
  | true =>
    show Calls _ _ _ _ (Ret w (.agg #[.string ⟨#[72]⟩, .int .i64 2, .int .i64 2, .int .i64 x, .int .i64 y, .int .i64 0, .int .i64 lo, .int .i64 hi, .slice none 0 0]))
    have hA := ((below_al w (.cells #[.int .i64 x, .int .i64 y, .int .i64 lo, .int .i64 hi, .int .i64 tol, .int .i64 mat, .bool true] 56)).nx (below_al _ (.cells #[.string ⟨#[72]⟩, .int .i64 2, .int .i64 2, .int .i64 x, .int .i64 y, .int .i64 0, .int .i64 lo, .int .i64 hi, .slice none 0 0] 28))).nx (below_al _ (.cells #[.string ⟨#[72]⟩, .int .i64 2, .int .i64 2, .int .i64 x, .int .i64 y, .int .i64 0, .int .i64 lo, .int .i64 hi, .slice none 0 0] 28))
    have hr := nww w (.cells #[.int .i64 x, .int .i64 y, .int .i64 lo, .int .i64 hi, .int .i64 tol, .int .i64 mat, .bool true] 56) #[.string ⟨#[72]⟩, .int .i64 2, .int .i64 2, .int .i64 x, .int .i64 y, .int .i64 0, .int .i64 lo, .int .i64 hi, .slice none 0 0] 28
    have hr2 := keepD hr (below_al _ (.cells #[.string ⟨#[72]⟩, .int .i64 2, .int .i64 2, .int .i64 x, .int .i64 y, .int .i64 0, .int .i64 lo, .int .i64 hi, .slice none 0 0] 28))
    go_enter Tryz.func19, Tryz.ntmps19
    go_wp2
    refine bodyPost_ret (results_cell_row rfl _ _ (w.heap.size + 1) 28 #[.string ⟨#[72]⟩, .int .i64 2, .int .i64 2, .int .i64 x, .int .i64 y, .int .i64 0, .int .i64 lo, .int .i64 hi, .slice none 0 0] _ _ (by kernel_rfl) hr2 Tryz.underlying28 rfl (by kernel_rfl)) rfl ?_
    exact ⟨rfl, hA⟩
def chC : Ca := ⟨⟨[72], 1, 2, ⟨0, 0, 0⟩, 100, 106⟩, ⟨8, true, 4, 1⟩, 0⟩
def chL : List Sp := [⟨3, 1, 0⟩]
theorem ch_ok : caE chC.f chC.x chC.b [] chL = 0 := by decide +kernel
theorem ch_wst : wst (fC chC zT chL) chL.length = (10, 0) := by decide +kernel
theorem ned_10 : nedV 10 = .tuple #[.int .i64 7, .int .i64 0] := by
  have h1 : ned 10 ≤ 7 := (ned_iff (by omega)).1 (of_decide_eq_true (by decide +kernel : fitB 10 ((7 : Nat) : Int) = true))
  have h2 : ¬ ned 10 ≤ 6 := fun h => absurd ((ned_iff (by omega)).2 h) (of_decide_eq_false (by decide +kernel : fitB 10 ((6 : Nat) : Int) = false))
  unfold nedV
  rw [show ned 10 = 7 by omega]; rfl
theorem ch_needed (sv : Value) (w : World) (hg : Good w) (S : CaS w chC (.slice none 0 0) (.slice none 0 0) sv [] chL) : Calls Tryz.prog 43 #[caV chC (.slice none 0 0) (.slice none 0 0) sv, ttV zTT'] w (Ret w (.tuple #[.int .i64 7, .int .i64 0])) := by
  obtain ⟨hk, h64, hin, -, -⟩ := right_ok ch_ok zT_sh
  have hG : ∀ W, Below w.heap.size w W → Calls Tryz.prog 51 #[caV chC (.slice none 0 0) (.slice none 0 0) sv, ttV zTT'] W (Ret W (.int .i64 0)) := fun W hb => by
    have := given_c chC (.slice none 0 0) (.slice none 0 0) sv zTT' [] chL W (hg.later hb) (S.later hb) hl1
    rwa [show gvE chC zTT' [] chL = 0 by unfold gvE; rw [ch_ok, if_neg (by simp)]; exact zE] at this
  have hW : ∀ W, Below w.heap.size w W → Calls Tryz.prog 40 #[caV chC (.slice none 0 0) (.slice none 0 0) sv, ttV zTT'] W (Ret W (wst3 (rtoa 10) 0 0)) := fun W hb => by
    have := worst_ok chC (.slice none 0 0) (.slice none 0 0) sv zT chL W (hg.later hb) hk (S.sp.later hb) h64 (by decide) hin (fun W' h' => by rw [tz]; exact hG W' (hb.nx h'))
    rwa [ch_wst, tz] at this
  have := needed_ok chC _ _ sv zTT' 10 0 w hg ((szV_int (n := 10) (v := 1) ((lng_le 10 (k := 2) (by omega)).2 (by decide))).mono (by omega) (by omega) : szV 10 475 21) hW
  rwa [ned_10] at this
theorem hoT_R : TgR hoT := by constructor <;> (simp [hoT])
def chI : Ci := ⟨3, 1, 103⟩
theorem chI_R : CiR chI := by constructor <;> (simp [chI])
theorem ch_keeps : keepB hoT chI = true := by decide +kernel
theorem chS (w : World) : CaS (w.alloc (.cells #[.int .i64 3, .int .i64 1, .int .i64 0] 23)) chC (.slice none 0 0) (.slice none 0 0) (.slice (some ⟨w.heap.size, 0, none⟩) 1 1) [] chL := by
  refine ⟨⟨[], Or.inl ⟨none, 0, rfl, rfl⟩, by simp, by simp⟩, dts_nil _, Or.inr ⟨w.heap.size, 0, 1, rfl, ?_, alloc_lt w _⟩, by decide, by simp [chC]⟩
  exact RX.lit w [(⟨3, 1, 0⟩ : Sp)] 23
set_option maxRecDepth 100000 in
set_option maxHeartbeats 4000000 in
theorem caseBonus_c (w : World) (hg : Good w) (hs : SgW w) : Calls Tryz.prog 17 #[] w (Ret w (.bool true)) := by
  have HH := Lib.hid (fun W => hole44_c W)
  have HF := Lib.hid (fun W => caseFeature_c hoT W)
  have HZ := Lib.hid (fun W => tzero_c W)
  have HN := Lib.hid (fun sv W (h : Below w.heap.size w W) S => ch_needed sv W (hg.later h) S)
  have HK : Hid (∀ W, Below w.heap.size w W → Calls Tryz.prog 27 #[tgV hoT, ciV chI] W (Ret W (.tuple #[.bool true, .int .i64 0]))) := Lib.hid (fun W h => by
    have := Keeps_ok hoT hoT_R chI chI_R W (hs.later h)
    rwa [ch_keeps] at this)
  clear hg hs
  go_enter Tryz.func17, Tryz.ntmps17
  go_wp2_with fail
  ((with_reducible refine (HH.out _).mono ?_); rintro e w1 ⟨rfl, hb1⟩)
  go_wp2_with fail
  ((refine (HF.out _).mono ?_); rintro e w2 ⟨rfl, hb2⟩)
  have hS := chS w2
  have hB2 := (hb1.nx hb2).nx (below_al w2 (.cells #[.int .i64 3, .int .i64 1, .int .i64 0] 23))
  go_wp2_with fail
  ((with_reducible refine (HZ.out _).mono ?_); rintro e w3 ⟨rfl, hb3⟩)
  have hS3 := hS.later hb3
  have hB3 := hB2.nx hb3
  clear hb1 hb2 hB2 hS hb3
  go_wp2_with fail
  ((refine (HN.out _ _ hB3 hS3).mono ?_); rintro e w4 ⟨rfl, hb4⟩)
  have hB4 := hB3.nx hb4
  clear hB3 hS3 hb4 HN HF HZ
  go_wp2_with fail
  ((with_reducible refine (HH.out _).mono ?_); rintro e w5 ⟨rfl, hb5⟩)
  have hB5 := hB4.nx hb5
  go_wp2_with fail
  ((refine (HK.out _ hB5).mono ?_); rintro e w6 ⟨rfl, hb6⟩)
  have hB6 := hB5.nx hb6
  clear hB4 hb5 hB5 hb6 HK HH
  go_wp2
  go_ret
  exact ⟨rfl, hB6⟩
end Go.Proofs.Wk
/- A TARGET, A CIRCLE, A FIT THAT CAME IN; THE TABLE OF SIGNS. -/
namespace Go.Proofs.Wk
open Go.RowKit Go.WideShapes Go.ChangeShapes Go.Deep Po

theorem lst2x {β : Type} {l : List β} (h : l.length = 2) : ∃ a b, l = [a, b] := by
  match l, h with
  | [a, b], _ => exact ⟨a, b, rfl⟩
theorem lst3x {β : Type} {l : List β} (h : l.length = 3) : ∃ a b c, l = [a, b, c] := by
  match l, h with
  | [a, b, c], _ => exact ⟨a, b, c, rfl⟩
theorem lst7x {β : Type} {l : List β} (h : l.length = 7) : ∃ a b c d e f g, l = [a, b, c, d, e, f, g] := by
  match l, h with
  | [a, b, c, d, e, f, g], _ => exact ⟨a, b, c, d, e, f, g, rfl⟩
section
variable {H : Type} {enc : TypeId × Value → H} {W : World}
theorem tr_pt2 {n : Nat} {cs : List Value} {y : DataW H × List MemPlace} (h : Tr enc Tryz.prog W n 54 cs y) (hw : WtB Tryz.prog 54 y.1) : ∃ a b : Int, cs = [.int .i64 a, .int .i64 b] := by
  obtain ⟨m, hl, hf⟩ := tr_struct Tryz.underlying54 h hw
  rw [show Tryz.prog.cellsOf 54 = 2 by kernel_rfl] at hl
  obtain ⟨v0, v1, rfl⟩ := lst2x hl
  obtain ⟨z0, g0, w0⟩ := hf 0 _ rfl
  obtain ⟨z1, g1, w1⟩ := hf 1 _ rfl
  replace g0 : Tr enc Tryz.prog W m 3 (([v0, v1].drop 0).take (Tryz.prog.cellsOf 3)) z0 := g0
  replace w0 : WtB Tryz.prog 3 z0.1 := w0
  rw [show Tryz.prog.cellsOf 3 = 1 by kernel_rfl] at g0
  replace g1 : Tr enc Tryz.prog W m 3 (([v0, v1].drop 1).take (Tryz.prog.cellsOf 3)) z1 := g1
  replace w1 : WtB Tryz.prog 3 z1.1 := w1
  rw [show Tryz.prog.cellsOf 3 = 1 by kernel_rfl] at g1
  obtain ⟨n0, e0, -⟩ := tr_int Tryz.underlying3 g0
  obtain ⟨n1, e1, -⟩ := tr_int Tryz.underlying3 g1
  simp at e0 e1
  subst e0 e1
  exact ⟨n0, n1, rfl⟩
theorem tr_tgt {n : Nat} {cs : List Value} {y : DataW H × List MemPlace} (h : Tr enc Tryz.prog W n 56 cs y) (hw : WtB Tryz.prog 56 y.1) : ∃ t : Tg, cs = (tgC t).toList := by
  obtain ⟨m, hl, hf⟩ := tr_struct Tryz.underlying56 h hw
  rw [show Tryz.prog.cellsOf 56 = 7 by kernel_rfl] at hl
  obtain ⟨v0, v1, v2, v3, v4, v5, v6, rfl⟩ := lst7x hl
  obtain ⟨z0, g0, w0⟩ := hf 0 _ rfl
  obtain ⟨z1, g1, w1⟩ := hf 1 _ rfl
  obtain ⟨z2, g2, w2⟩ := hf 2 _ rfl
  obtain ⟨z3, g3, w3⟩ := hf 3 _ rfl
  obtain ⟨z4, g4, w4⟩ := hf 4 _ rfl
  replace g0 : Tr enc Tryz.prog W m 54 (([v0, v1, v2, v3, v4, v5, v6].drop 0).take (Tryz.prog.cellsOf 54)) z0 := g0
  replace w0 : WtB Tryz.prog 54 z0.1 := w0
  rw [show Tryz.prog.cellsOf 54 = 2 by kernel_rfl] at g0
  replace g1 : Tr enc Tryz.prog W m 25 (([v0, v1, v2, v3, v4, v5, v6].drop 2).take (Tryz.prog.cellsOf 25)) z1 := g1
  replace w1 : WtB Tryz.prog 25 z1.1 := w1
  rw [show Tryz.prog.cellsOf 25 = 2 by kernel_rfl] at g1
  replace g2 : Tr enc Tryz.prog W m 3 (([v0, v1, v2, v3, v4, v5, v6].drop 4).take (Tryz.prog.cellsOf 3)) z2 := g2
  replace w2 : WtB Tryz.prog 3 z2.1 := w2
  rw [show Tryz.prog.cellsOf 3 = 1 by kernel_rfl] at g2
  replace g3 : Tr enc Tryz.prog W m 3 (([v0, v1, v2, v3, v4, v5, v6].drop 5).take (Tryz.prog.cellsOf 3)) z3 := g3
  replace w3 : WtB Tryz.prog 3 z3.1 := w3
  rw [show Tryz.prog.cellsOf 3 = 1 by kernel_rfl] at g3
  replace g4 : Tr enc Tryz.prog W m 4 (([v0, v1, v2, v3, v4, v5, v6].drop 6).take (Tryz.prog.cellsOf 4)) z4 := g4
  replace w4 : WtB Tryz.prog 4 z4.1 := w4
  rw [show Tryz.prog.cellsOf 4 = 1 by kernel_rfl] at g4
  obtain ⟨n0a, n0b, e0⟩ := tr_pt2 g0 w0
  obtain ⟨n1a, n1b, e1⟩ := tr_lim g1 w1
  obtain ⟨n2, e2, -⟩ := tr_int Tryz.underlying3 g2
  obtain ⟨n3, e3, -⟩ := tr_int Tryz.underlying3 g3
  obtain ⟨n4, e4⟩ := tr_bool Tryz.underlying4 g4
  simp at e0 e1 e2 e3 e4
  obtain ⟨rfl, rfl⟩ := e0
  obtain ⟨rfl, rfl⟩ := e1
  subst e2 e3 e4
  exact ⟨⟨n0a, n0b, n1a, n1b, n2, n3, n4⟩, rfl⟩
theorem tr_cir {n : Nat} {cs : List Value} {y : DataW H × List MemPlace} (h : Tr enc Tryz.prog W n 80 cs y) (hw : WtB Tryz.prog 80 y.1) : ∃ c : Ci, cs = [.int .i64 c.x, .int .i64 c.y, .int .i64 c.s] := by
  obtain ⟨m, hl, hf⟩ := tr_struct Tryz.underlying80 h hw
  rw [show Tryz.prog.cellsOf 80 = 3 by kernel_rfl] at hl
  obtain ⟨v0, v1, v2, rfl⟩ := lst3x hl
  obtain ⟨z0, g0, w0⟩ := hf 0 _ rfl
  obtain ⟨z1, g1, w1⟩ := hf 1 _ rfl
  replace g0 : Tr enc Tryz.prog W m 54 (([v0, v1, v2].drop 0).take (Tryz.prog.cellsOf 54)) z0 := g0
  replace w0 : WtB Tryz.prog 54 z0.1 := w0
  rw [show Tryz.prog.cellsOf 54 = 2 by kernel_rfl] at g0
  replace g1 : Tr enc Tryz.prog W m 3 (([v0, v1, v2].drop 2).take (Tryz.prog.cellsOf 3)) z1 := g1
  replace w1 : WtB Tryz.prog 3 z1.1 := w1
  rw [show Tryz.prog.cellsOf 3 = 1 by kernel_rfl] at g1
  obtain ⟨n0a, n0b, e0⟩ := tr_pt2 g0 w0
  obtain ⟨n1, e1, -⟩ := tr_int Tryz.underlying3 g1
  simp at e0 e1
  obtain ⟨rfl, rfl⟩ := e0
  subst e1
  exact ⟨⟨n0a, n0b, n1⟩, rfl⟩
theorem tr_cls {n : Nat} {cs : List Value} {y : DataW H × List MemPlace} (h : Tr enc Tryz.prog W n 67 cs y) (hw : WtB Tryz.prog 67 y.1) : ∃ (b : Bool) (l g : Int), cs = [.bool b, .int .i64 l, .int .i64 g] := by
  obtain ⟨m, hl, hf⟩ := tr_struct Tryz.underlying67 h hw
  rw [show Tryz.prog.cellsOf 67 = 3 by kernel_rfl] at hl
  obtain ⟨v0, v1, v2, rfl⟩ := lst3x hl
  obtain ⟨z0, g0, w0⟩ := hf 0 _ rfl
  obtain ⟨z1, g1, w1⟩ := hf 1 _ rfl
  obtain ⟨z2, g2, w2⟩ := hf 2 _ rfl
  replace g0 : Tr enc Tryz.prog W m 4 (([v0, v1, v2].drop 0).take (Tryz.prog.cellsOf 4)) z0 := g0
  replace w0 : WtB Tryz.prog 4 z0.1 := w0
  rw [show Tryz.prog.cellsOf 4 = 1 by kernel_rfl] at g0
  replace g1 : Tr enc Tryz.prog W m 3 (([v0, v1, v2].drop 1).take (Tryz.prog.cellsOf 3)) z1 := g1
  replace w1 : WtB Tryz.prog 3 z1.1 := w1
  rw [show Tryz.prog.cellsOf 3 = 1 by kernel_rfl] at g1
  replace g2 : Tr enc Tryz.prog W m 3 (([v0, v1, v2].drop 2).take (Tryz.prog.cellsOf 3)) z2 := g2
  replace w2 : WtB Tryz.prog 3 z2.1 := w2
  rw [show Tryz.prog.cellsOf 3 = 1 by kernel_rfl] at g2
  obtain ⟨n0, e0⟩ := tr_bool Tryz.underlying4 g0
  obtain ⟨n1, e1, -⟩ := tr_int Tryz.underlying3 g1
  obtain ⟨n2, e2, -⟩ := tr_int Tryz.underlying3 g2
  simp at e0 e1 e2
  subst e0 e1 e2
  exact ⟨n0, n1, n2, rfl⟩
theorem tr_fit {n : Nat} {cs : List Value} {y : DataW H × List MemPlace} (h : Tr enc Tryz.prog W n 69 cs y) (hw : WtB Tryz.prog 69 y.1) : ∃ (s : Int) (b : Bool) (l g : Int) (b2 : Bool) (l2 g2 : Int), cs = [.int .i64 s, .bool b, .int .i64 l, .int .i64 g, .bool b2, .int .i64 l2, .int .i64 g2] := by
  obtain ⟨m, hl, hf⟩ := tr_struct Tryz.underlying69 h hw
  rw [show Tryz.prog.cellsOf 69 = 7 by kernel_rfl] at hl
  obtain ⟨v0, v1, v2, v3, v4, v5, v6, rfl⟩ := lst7x hl
  obtain ⟨z0, g0, w0⟩ := hf 0 _ rfl
  obtain ⟨z1, g1, w1⟩ := hf 1 _ rfl
  obtain ⟨z2, g2, w2⟩ := hf 2 _ rfl
  replace g0 : Tr enc Tryz.prog W m 3 (([v0, v1, v2, v3, v4, v5, v6].drop 0).take (Tryz.prog.cellsOf 3)) z0 := g0
  replace w0 : WtB Tryz.prog 3 z0.1 := w0
  rw [show Tryz.prog.cellsOf 3 = 1 by kernel_rfl] at g0
  replace g1 : Tr enc Tryz.prog W m 67 (([v0, v1, v2, v3, v4, v5, v6].drop 1).take (Tryz.prog.cellsOf 67)) z1 := g1
  replace w1 : WtB Tryz.prog 67 z1.1 := w1
  rw [show Tryz.prog.cellsOf 67 = 3 by kernel_rfl] at g1
  replace g2 : Tr enc Tryz.prog W m 67 (([v0, v1, v2, v3, v4, v5, v6].drop 4).take (Tryz.prog.cellsOf 67)) z2 := g2
  replace w2 : WtB Tryz.prog 67 z2.1 := w2
  rw [show Tryz.prog.cellsOf 67 = 3 by kernel_rfl] at g2
  obtain ⟨n0, e0, -⟩ := tr_int Tryz.underlying3 g0
  obtain ⟨n1a, n1b, n1c, e1⟩ := tr_cls g1 w1
  obtain ⟨n2a, n2b, n2c, e2⟩ := tr_cls g2 w2
  simp at e0 e1 e2
  obtain ⟨rfl, rfl, rfl⟩ := e1
  obtain ⟨rfl, rfl, rfl⟩ := e2
  subst e0
  exact ⟨n0, n1a, n1b, n1c, n2a, n2b, n2c, rfl⟩
variable {base : Nat} {r : Reach} {v : Value} {d : DataW H} {ps : List MemPlace} {ts : List TypeId} {ds : List (DataW H)} {j : Nat}
set_option maxRecDepth 100000 in
theorem open_target (hval : Value.okWide Tryz.prog W r base 56 v) (h : DataW.Trod enc Tryz.prog W 0 (fun _ => true) true 56 v d ps) (hsz : (DataW.weightsEach Tryz.prog ts ds).all (· ≤ reachBytes) = true) (hj : ts[j]? = some 56) (hd : ds[j]? = some d) :
    ∃ t : Tg, v = tgV t := by
  obtain ⟨cs, rfl, -⟩ := okWide_struct Tryz.underlying56 hval
  obtain ⟨fuel, hf⟩ := h
  obtain ⟨t, e⟩ := tr_tgt hf (WtB.of hsz hj hd)
  refine ⟨t, ?_⟩
  obtain ⟨l⟩ := cs
  simp only [Value.cells] at e
  have hl : l = (tgC t).toList := by simpa using e
  rw [hl]
set_option maxRecDepth 100000 in
theorem open_circle (hval : Value.okWide Tryz.prog W r base 80 v) (h : DataW.Trod enc Tryz.prog W 0 (fun _ => true) true 80 v d ps) (hsz : (DataW.weightsEach Tryz.prog ts ds).all (· ≤ reachBytes) = true) (hj : ts[j]? = some 80) (hd : ds[j]? = some d) :
    ∃ c : Ci, v = ciV c := by
  obtain ⟨cs, rfl, -⟩ := okWide_struct Tryz.underlying80 hval
  obtain ⟨fuel, hf⟩ := h
  obtain ⟨c, e⟩ := tr_cir hf (WtB.of hsz hj hd)
  refine ⟨c, ?_⟩
  obtain ⟨l⟩ := cs
  simp only [Value.cells] at e
  have hl : l = [.int .i64 c.x, .int .i64 c.y, .int .i64 c.s] := by simpa using e
  rw [hl]
set_option maxRecDepth 100000 in
theorem open_fit (hval : Value.okWide Tryz.prog W r base 69 v) (h : DataW.Trod enc Tryz.prog W 0 (fun _ => true) true 69 v d ps) (hsz : (DataW.weightsEach Tryz.prog ts ds).all (· ≤ reachBytes) = true) (hj : ts[j]? = some 69) (hd : ds[j]? = some d) :
    ∃ (s : Int) (b : Bool) (l g : Int) (b2 : Bool) (l2 g2 : Int), v = .agg #[.int .i64 s, .bool b, .int .i64 l, .int .i64 g, .bool b2, .int .i64 l2, .int .i64 g2] := by
  obtain ⟨cs, rfl, -⟩ := okWide_struct Tryz.underlying69 hval
  obtain ⟨fuel, hf⟩ := h
  obtain ⟨s, b, l1, g, b2, l2, g2, e⟩ := tr_fit hf (WtB.of hsz hj hd)
  refine ⟨s, b, l1, g, b2, l2, g2, ?_⟩
  obtain ⟨l⟩ := cs
  simp only [Value.cells] at e
  have hl : l = [.int .i64 s, .bool b, .int .i64 l1, .int .i64 g, .bool b2, .int .i64 l2, .int .i64 g2] := by simpa using e
  rw [hl]
end
/-- An array of two tables. -/
theorem cells_of_tab2 {H : Type} {enc : TypeId × Value → H} {P : Program} {w : World} {base : Nat} {sp : Nat → Bool} {held : Bool} {fuel : Nat} {t a e : TypeId} {n : Nat} {k : IntKind} {cs : List Value} {xs ys : List Int} {p : List MemPlace}
    (ht : P.underlying t = some (.array 2 a)) (ha : P.underlying a = some (.array n e)) (he : P.underlying e = some (.int k)) (hce : P.cellsOf e = 1) (hca : P.cellsOf a = n) (hct : P.cellsOf t = 2 * n)
    (h : DataW.trod enc P w base sp held fuel t cs = some (.agg [Lib.tabData k xs, Lib.tabData k ys], p)) : cs = (xs ++ ys).map fun z => Value.int k z := by
  cases fuel with
  | zero => simp [DataW.trod] at h
  | succ fuel =>
    simp only [DataW.trod, ht, hca, hct] at h
    split at h
    · rename_i hl
      obtain ⟨zs, hm, hx⟩ := Option.map_eq_some_iff.1 h
      simp only [show List.range 2 = [0, 1] from rfl, List.mapM_cons, List.mapM_nil, bind, Option.bind_eq_some_iff, pure, Option.some.injEq] at hm
      obtain ⟨y0, q0, r0, ⟨y1, q1, r1, rfl, rfl⟩, rfl⟩ := hm
      have e1 := congrArg Prod.fst hx
      simp only [List.map_cons, List.map_nil, DataW.agg.injEq, List.cons.injEq, and_true] at e1
      obtain ⟨a0, a1⟩ := y0
      obtain ⟨b0, b1⟩ := y1
      simp only at e1
      obtain ⟨rfl, rfl⟩ := e1
      have c0 := Lib.cells_of_tab ha he hce hca q0
      have c1 := Lib.cells_of_tab ha he hce hca q1
      rw [List.map_append, ← c0, ← c1]
      simp only [Nat.zero_mul, List.drop_zero, Nat.one_mul]
      rw [List.take_of_length_le (l := cs.drop n) (by rw [List.length_drop]; omega)]
      exact (List.take_append_drop n cs).symm
    · cases h
theorem lay_sg : Tryz.prog.globalNamed "metrolab/bonus.signs" = some 0 := by kernel_rfl
theorem lay_sgt : (Tryz.prog.globals[0]?).map (·.type) = some 192 := by kernel_rfl
theorem sg_of_laid {l : List (String × DataW Unit)} {W : World} (h : laidMet Tryz.prog l W)
    (h1 : (l.filter fun x => x.1 == "metrolab/bonus.signs") = [("metrolab/bonus.signs", .agg [Lib.tabData .i64 [-1, -1, 1], Lib.tabData .i64 [1, 1, -1]])]) : SgW W := by
  have a1 := h.filter fun x => x.1 == "metrolab/bonus.signs"
  rw [h1] at a1
  obtain ⟨ps, ⟨g', t', cs, fuel, p, q, hg', ht', hvar, hd, _, _⟩, _⟩ := a1
  obtain rfl := Option.some.inj (lay_sg.symm.trans hg')
  obtain rfl := Option.some.inj (lay_sgt.symm.trans ht')
  have hcs := cells_of_tab2 Tryz.underlying192 Tryz.underlying173 Tryz.underlying3 (by kernel_rfl) (by kernel_rfl) (by kernel_rfl) hd
  obtain ⟨l2⟩ := cs
  replace hcs : l2 = _ := hcs
  subst hcs
  have hc := fun i => World.var?_cell (P := Tryz.prog) lay_sg hvar i
  exact ⟨hc 0, hc 1, hc 2, hc 3, hc 4, hc 5⟩
end Go.Proofs.Wk
