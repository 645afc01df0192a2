/- TOLERANCE GRADES: what the program gives for right sizes and classes. -/
import Derived.Test.YtachiilmgnognaaFitC
import Derived.Laws.ResultCell
namespace Go.Proofs.Wk
open Go.RowKit

theorem results_cell_row_tmp {P : Program} {fn : Func} {p u : Tmp} {ty : TypeId} (h : fn.results = #[.cell p ty, .tmp u]) (tmps : Array Value) (w : World) (g : Nat) (t : TypeId) (cs : Array Value) (fr : Nat × Nat) (d : TypeDesc)
    (hp : tmps.getD p undef = .pointer (some ⟨g, 0, none⟩)) (hg : w.heap[g]? = some (.cells cs t fr))
    (hu : P.underlying ty = some d) (hd : (match d with | .struct _ | .array _ _ => true | _ => false) = true) (hi : (P.info? ty).map (·.size) = some cs.size) :
    (results fn tmps).run P w = .ok (.tuple #[.agg cs, tmps.getD u undef]) w := by
  rw [results_cell_tmp h, hp]
  simp [asAddr, Result.andThen, run_loadVar_row w g t ty cs fr d hg hu hd hi]
/-- A class that was boxed, the result's block, and what was there before. -/
structure LW (w0 : World) (b : Nat) (ct : TypeId) (h : Bool) (l g A B : Int) (w : World) : Prop where
  c : w.heap[b]? = some (.cells #[.bool h, .int .i64 l, .int .i64 g] ct (0, 0))
  r : w.heap[b + 1]? = some (.cells #[.int .i64 A, .int .i64 B] 27 (0, 0))
  w : Below w0.heap.size w0 w
  s : w0.heap.size ≤ b
theorem LW.later {w0 : World} {b : Nat} {ct : TypeId} {h : Bool} {l g A B : Int} {w w' : World} (j : LW w0 b ct h l g A B w) (hb : Below w.heap.size w w') : LW w0 b ct h l g A B w' :=
  ⟨by rw [hb.block b (Array.getElem?_eq_some_iff.1 j.c).1]; exact j.c, by rw [hb.block (b + 1) (Array.getElem?_eq_some_iff.1 j.r).1]; exact j.r, j.w.trans (hb.mono j.w.size), j.s⟩
theorem LW.alloc {w0 : World} {b : Nat} {ct : TypeId} {h : Bool} {l g A B : Int} {w : World} (j : LW w0 b ct h l g A B w) (o : Obj) : LW w0 b ct h l g A B (w.alloc o) := j.later ((Below.refl _ _).alloc (Nat.le_refl _) o)
theorem LW.drew {w0 : World} {b : Nat} {ct : TypeId} {h : Bool} {l g A B : Int} {w : World} (j : LW w0 b ct h l g A B w) : LW w0 b ct h l g A B w.drew := j.later (Below.refl _ _).drew
theorem LW.cc {w0 : World} {b : Nat} {ct : TypeId} {h : Bool} {l g A B : Int} {w : World} (j : LW w0 b ct h l g A B w) : w.cell? ⟨b, 0, none⟩ = some (.bool h) ∧ w.cell? ⟨b, 1, none⟩ = some (.int .i64 l) ∧ w.cell? ⟨b, 2, none⟩ = some (.int .i64 g) :=
  ⟨by rw [cell_of_row _ _ _ _ _ _ j.c]; rfl, by rw [cell_of_row _ _ _ _ _ _ j.c]; rfl, by rw [cell_of_row _ _ _ _ _ _ j.c]; rfl⟩
theorem LW.rc {w0 : World} {b : Nat} {ct : TypeId} {h : Bool} {l g A B : Int} {w : World} (j : LW w0 b ct h l g A B w) : w.cell? ⟨b + 1, 0, none⟩ = some (.int .i64 A) ∧ w.cell? ⟨b + 1, 1, none⟩ = some (.int .i64 B) ∧ w.frozen? ⟨b + 1, 0, none⟩ = false ∧ w.frozen? ⟨b + 1, 1, none⟩ = false :=
  ⟨by rw [cell_of_row _ _ _ _ _ _ j.r]; rfl, by rw [cell_of_row _ _ _ _ _ _ j.r]; rfl, frozen_of_row _ _ _ _ _ j.r, frozen_of_row _ _ _ _ _ j.r⟩
theorem LW.put {w0 : World} {b : Nat} {ct : TypeId} {h : Bool} {l g A B : Int} {w : World} (j : LW w0 b ct h l g A B w) (A' B' : Int) : LW w0 b ct h l g A' B' ((w.setCell ⟨b + 1, 0, none⟩ (.int .i64 A')).setCell ⟨b + 1, 1, none⟩ (.int .i64 B')) :=
  ⟨by rw [Below.heap_setCell _ _ _ _ (by show b ≠ b + 1; omega), Below.heap_setCell _ _ _ _ (by show b ≠ b + 1; omega)]; exact j.c, heap_setCell_same _ (b + 1) 1 _ _ _ (heap_setCell_same w (b + 1) 0 _ _ (.int .i64 A') j.r),
    (j.w.setCell (by show w0.heap.size ≤ b + 1; have := j.s; omega) _).setCell (by show w0.heap.size ≤ b + 1; have := j.s; omega) _, j.s⟩
theorem LW.new (w0 : World) (ct : TypeId) (h : Bool) (l g : Int) : LW w0 w0.heap.size ct h l g 0 0 ((w0.alloc (.cells #[.bool h, .int .i64 l, .int .i64 g] ct)).alloc (.cells #[.int .i64 0, .int .i64 0] 27)) := by
  have b1 : Below w0.heap.size w0 (w0.alloc (.cells #[.bool h, .int .i64 l, .int .i64 g] ct)) := (Below.refl _ _).alloc (Nat.le_refl _) _
  have b2 : Below (w0.alloc (.cells #[.bool h, .int .i64 l, .int .i64 g] ct)).heap.size (w0.alloc (.cells #[.bool h, .int .i64 l, .int .i64 g] ct)) ((w0.alloc (.cells #[.bool h, .int .i64 l, .int .i64 g] ct)).alloc (.cells #[.int .i64 0, .int .i64 0] 27)) := (Below.refl _ _).alloc (Nat.le_refl _) _
  have h1 := heap_alloc_new w0 (.cells #[.bool h, .int .i64 l, .int .i64 g] ct)
  have h2 := heap_alloc_new (w0.alloc (.cells #[.bool h, .int .i64 l, .int .i64 g] ct)) (.cells #[.int .i64 0, .int .i64 0] 27)
  rw [show (w0.alloc (.cells #[.bool h, .int .i64 l, .int .i64 g] ct)).heap.size = w0.heap.size + 1 by simp] at h2
  exact ⟨by rw [b2.block w0.heap.size (alloc_lt w0 _)]; exact h1, h2, b1.trans (b2.mono b1.size), Nat.le_refl _⟩
set_option maxRecDepth 100000 in
theorem sized_ok (s : Int) (w : World) (h0 : 1 ≤ s) (h1 : s ≤ 100000) : Calls Try.prog 15 #[.int .i64 s] w (Ret w (.int .i64 0)) := by
  have k0 : decide (s < 1) = false := decide_eq_false (by omega)
  have k1 : decide (100000 < s) = false := decide_eq_false (by omega)
  clear h0 h1
  go_enter Try.func15, Try.ntmps15
  go_wp2
  go_ret
  exact ⟨rfl, Below.refl _ _⟩
set_option maxRecDepth 100000 in
theorem graded_ok (s : Int) (w : World) (h0 : 5 ≤ s) (h1 : s ≤ 12) : Calls Try.prog 16 #[.int .i64 s] w (Ret w (.int .i64 0)) := by
  have k0 : decide (s < 5) = false := decide_eq_false (by omega)
  have k1 : decide (12 < s) = false := decide_eq_false (by omega)
  clear h0 h1
  go_enter Try.func16, Try.ntmps16
  go_wp2
  go_ret
  exact ⟨rfl, Below.refl _ _⟩
set_option maxRecDepth 100000 in
theorem fsized_ok (s : Int) (w : World) (h0 : 1 ≤ s) (h1 : s ≤ 100000) : Calls Try.prog 23 #[.int .i64 s] w (Ret w (.int .i64 0)) := by
  have k0 : decide (s < 1) = false := decide_eq_false (by omega)
  have k1 : decide (100000 < s) = false := decide_eq_false (by omega)
  clear h0 h1
  go_enter Try.func23, Try.ntmps23
  go_wp2
  go_ret
  exact ⟨rfl, Below.refl _ _⟩
set_option maxRecDepth 100000 in
theorem gCheck_ok (h : Bool) (l g : Int) (w : World) (l0 : 0 ≤ l) (l1 : l ≤ 9) (g0 : 5 ≤ g) (g1 : g ≤ 12) : Calls Try.prog 18 #[.agg #[.bool h, .int .i64 l, .int .i64 g]] w (Ret w (.int .i64 0)) := by
  have k0 : decide (l < 0) = false := decide_eq_false (by omega)
  have k1 : decide (10 ≤ l) = false := decide_eq_false (by omega)
  have HG := Lib.hid (fun W => graded_ok g W g0 g1)
  have hB : Below w.heap.size w (w.alloc (.cells #[.bool h, .int .i64 l, .int .i64 g] 32)) := (Below.refl _ _).alloc (Nat.le_refl _) _
  clear l0 l1 g0 g1
  go_enter Try.func18, Try.ntmps18
  go_wp2_with fail
  ((with_reducible refine (HG.out _).mono ?_); rintro e w1 ⟨rfl, hb1⟩)
  have hB1 := hB.trans (hb1.mono hB.size)
  go_wp2
  go_ret
  exact ⟨rfl, hB1⟩
set_option maxRecDepth 100000 in
theorem Tolerance_ok (s g : Int) (w : World) (s0 : 1 ≤ s) (s1 : s ≤ 100000) (g0 : 5 ≤ g) (g1 : g ≤ 12) : Calls Try.prog 9 #[.int .i64 s, .int .i64 g] w (Ret w (.tuple #[.int .i64 (tol s g), .int .i64 0])) := by
  have H1 := Lib.hid (fun W => sized_ok s W s0 s1)
  have H2 := Lib.hid (fun W => graded_ok g W g0 g1)
  have H3 := Lib.hid (fun W => tolerance_c s g W s1 g0 g1)
  clear s0 s1 g0 g1
  generalize tol s g = T at *
  go_enter Try.func9, Try.ntmps9
  go_wp2_with fail
  ((with_reducible refine (H1.out _).mono ?_); rintro e w1 ⟨rfl, hb1⟩)
  go_wp2_with fail
  ((with_reducible refine (H2.out _).mono ?_); rintro e w2 ⟨rfl, hb2⟩)
  have hB2 := hb1.trans (hb2.mono hb1.size)
  go_wp2_with fail
  ((with_reducible refine (H3.out _).mono ?_); rintro e w3 ⟨rfl, hb3⟩)
  have hB3 := hB2.trans (hb3.mono hB2.size)
  go_wp2
  go_returns
  exact ⟨rfl, hB3⟩
set_option maxRecDepth 100000 in
theorem Deviations_ok (h : Bool) (s l g : Int) (w : World) (s0 : 1 ≤ s) (s1 : s ≤ 100000) (l0 : 0 ≤ l) (l1 : l ≤ 9) (g0 : 5 ≤ g) (g1 : g ≤ 12) :
    Calls Try.prog 10 #[.int .i64 s, .agg #[.bool h, .int .i64 l, .int .i64 g]] w (Ret w (.tuple #[lim (devz h s l g), .int .i64 0])) := by
  have H1 := Lib.hid (fun W => sized_ok s W s0 s1)
  have H2 := Lib.hid (fun W => gCheck_ok h l g W l0 l1 g0 g1)
  have H3 := Lib.hid (fun W => deviations_c h s l g W s1 l0 l1 g0 g1)
  have J := LW.new w 32 h l g
  clear s0 s1 l0 l1 g0 g1
  generalize devz h s l g = D at *
  obtain ⟨D1, D2⟩ := D
  go_enter Try.func10, Try.ntmps10
  go_wp2_with fail
  ((with_reducible refine (H1.out _).mono ?_); rintro e w1 ⟨rfl, hb1⟩)
  have J1 := J.later hb1
  obtain ⟨c0, c1, c2⟩ := J1.cc
  go_wp2_with fail
  ((with_reducible refine (H2.out _).mono ?_); rintro e w2 ⟨rfl, hb2⟩)
  have J2 := J1.later hb2
  clear c0 c1 c2
  obtain ⟨c0, c1, c2⟩ := J2.cc
  go_wp2_with fail
  ((with_reducible refine (H3.out _).mono ?_); rintro e w3 ⟨rfl, hb3⟩)
  have J3 := J2.later hb3
  obtain ⟨k3, k4, k5, k6⟩ := J3.rc
  have J4 := J3.put D1 D2
  go_wp2
  refine bodyPost_ret (results_cell_row_tmp rfl _ _ (w.heap.size + 1) 27 _ _ _ (by kernel_rfl) J4.r Try.underlying27 rfl (by kernel_rfl)) rfl ?_
  exact ⟨rfl, J4.w⟩
theorem devz_bd {s l g : Int} (h : Bool) (l0 : 0 ≤ l) (l1 : l ≤ 9) (g0 : 5 ≤ g) (g1 : g ≤ 12) : (-1000 ≤ (devz h s l g).1 ∧ (devz h s l g).1 ≤ 1000) ∧ (-1000 ≤ (devz h s l g).2 ∧ (devz h s l g).2 ≤ 1000) := by
  obtain ⟨tb0, tb1⟩ := tol_bd (s := s) g0 g1
  obtain ⟨sb0, sb1⟩ := sha_bd (s := s) l0 l1
  have := dev3_bd (l := l) (show 0 ≤ tol s g by omega) tb1 sb0 sb1
  unfold devz
  split
  · simp only; omega
  · exact this
end Go.Proofs.Wk
