/- TOLERANCE GRADES: what the program gives for right sizes and classes. -/
import Derived.Test.YtdpjkfkmlaphhaaGreatDoorPW
import Derived.Laws.ResultCell
import Derived.Test.YtdpjkfkmlaphhaaGreatDoorPX
import Derived.BigRegion
import Derived.Deep.RegionHeld3
namespace Go.Proofs.Wk
open Go.RowKit

theorem results_cell_row_tmp {P : Program} {fn : Func} {p u : Tmp} {ty : TypeId} (h : fn.results = #[.cell p ty, .tmp u]) (tmps : Array Value) (w : World) (g : Nat) (t : TypeId) (cs : Array Value) (fr : Nat × Nat) (d : TypeDesc)
    (hp : tmps.getD p undef = .pointer (some ⟨g, 0, none⟩)) (hg : w.heap[g]? = some (.cells cs t fr))
    (hu : P.underlying ty = some d) (hd : (match d with | .struct _ | .array _ _ => true | _ => false) = true) (hi : (P.info? ty).map (·.size) = some cs.size) :
    (results fn tmps).run P w = .ok (.tuple #[.agg cs, tmps.getD u undef]) w := by
  rw [results_cell_tmp h, hp]
  simp [asAddr, Result.andThen, run_loadVar_row w g t ty cs fr d hg hu hd hi]
/-- A class that was boxed, the result's block, and what was there before. -/
structure LW (w0 : World) (b : Nat) (ct : TypeId) (h : Bool) (l g A B : Int) (w : World) : Prop where
  c : w.heap[b]? = some (.cells #[.bool h, .int .i64 l, .int .i64 g] ct (0, 0))
  r : w.heap[b + 1]? = some (.cells #[.int .i64 A, .int .i64 B] 25 (0, 0))
  w : Below w0.heap.size w0 w
  s : w0.heap.size ≤ b
theorem LW.later {w0 : World} {b : Nat} {ct : TypeId} {h : Bool} {l g A B : Int} {w w' : World} (j : LW w0 b ct h l g A B w) (hb : Below w.heap.size w w') : LW w0 b ct h l g A B w' :=
  ⟨by rw [hb.block b (Array.getElem?_eq_some_iff.1 j.c).1]; exact j.c, by rw [hb.block (b + 1) (Array.getElem?_eq_some_iff.1 j.r).1]; exact j.r, j.w.trans (hb.mono j.w.size), j.s⟩
theorem LW.alloc {w0 : World} {b : Nat} {ct : TypeId} {h : Bool} {l g A B : Int} {w : World} (j : LW w0 b ct h l g A B w) (o : Obj) : LW w0 b ct h l g A B (w.alloc o) := j.later ((Below.refl _ _).alloc (Nat.le_refl _) o)
theorem LW.drew {w0 : World} {b : Nat} {ct : TypeId} {h : Bool} {l g A B : Int} {w : World} (j : LW w0 b ct h l g A B w) : LW w0 b ct h l g A B w.drew := j.later (Below.refl _ _).drew
theorem LW.cc {w0 : World} {b : Nat} {ct : TypeId} {h : Bool} {l g A B : Int} {w : World} (j : LW w0 b ct h l g A B w) : w.cell? ⟨b, 0, none⟩ = some (.bool h) ∧ w.cell? ⟨b, 1, none⟩ = some (.int .i64 l) ∧ w.cell? ⟨b, 2, none⟩ = some (.int .i64 g) :=
  ⟨by rw [cell_of_row _ _ _ _ _ _ j.c]; rfl, by rw [cell_of_row _ _ _ _ _ _ j.c]; rfl, by rw [cell_of_row _ _ _ _ _ _ j.c]; rfl⟩
theorem LW.rc {w0 : World} {b : Nat} {ct : TypeId} {h : Bool} {l g A B : Int} {w : World} (j : LW w0 b ct h l g A B w) : w.cell? ⟨b + 1, 0, none⟩ = some (.int .i64 A) ∧ w.cell? ⟨b + 1, 1, none⟩ = some (.int .i64 B) ∧ w.frozen? ⟨b + 1, 0, none⟩ = false ∧ w.frozen? ⟨b + 1, 1, none⟩ = false :=
  ⟨by rw [cell_of_row _ _ _ _ _ _ j.r]; rfl, by rw [cell_of_row _ _ _ _ _ _ j.r]; rfl, frozen_of_row _ _ _ _ _ j.r, frozen_of_row _ _ _ _ _ j.r⟩
theorem LW.put {w0 : World} {b : Nat} {ct : TypeId} {h : Bool} {l g A B : Int} {w : World} (j : LW w0 b ct h l g A B w) (A' B' : Int) : LW w0 b ct h l g A' B' ((w.setCell ⟨b + 1, 0, none⟩ (.int .i64 A')).setCell ⟨b + 1, 1, none⟩ (.int .i64 B')) :=
  ⟨by rw [Below.heap_setCell _ _ _ _ (by show b ≠ b + 1; omega), Below.heap_setCell _ _ _ _ (by show b ≠ b + 1; omega)]; exact j.c, heap_setCell_same _ (b + 1) 1 _ _ _ (heap_setCell_same w (b + 1) 0 _ _ (.int .i64 A') j.r),
    (j.w.setCell (by show w0.heap.size ≤ b + 1; have := j.s; omega) _).setCell (by show w0.heap.size ≤ b + 1; have := j.s; omega) _, j.s⟩
theorem LW.new (w0 : World) (ct : TypeId) (h : Bool) (l g : Int) : LW w0 w0.heap.size ct h l g 0 0 ((w0.alloc (.cells #[.bool h, .int .i64 l, .int .i64 g] ct)).alloc (.cells #[.int .i64 0, .int .i64 0] 25)) := by
  have b1 : Below w0.heap.size w0 (w0.alloc (.cells #[.bool h, .int .i64 l, .int .i64 g] ct)) := (Below.refl _ _).alloc (Nat.le_refl _) _
  have b2 : Below (w0.alloc (.cells #[.bool h, .int .i64 l, .int .i64 g] ct)).heap.size (w0.alloc (.cells #[.bool h, .int .i64 l, .int .i64 g] ct)) ((w0.alloc (.cells #[.bool h, .int .i64 l, .int .i64 g] ct)).alloc (.cells #[.int .i64 0, .int .i64 0] 25)) := (Below.refl _ _).alloc (Nat.le_refl _) _
  have h1 := heap_alloc_new w0 (.cells #[.bool h, .int .i64 l, .int .i64 g] ct)
  have h2 := heap_alloc_new (w0.alloc (.cells #[.bool h, .int .i64 l, .int .i64 g] ct)) (.cells #[.int .i64 0, .int .i64 0] 25)
  rw [show (w0.alloc (.cells #[.bool h, .int .i64 l, .int .i64 g] ct)).heap.size = w0.heap.size + 1 by simp] at h2
  exact ⟨by rw [b2.block w0.heap.size (alloc_lt w0 _)]; exact h1, h2, b1.trans (b2.mono b1.size), Nat.le_refl _⟩
set_option maxRecDepth 100000 in
theorem sized_ok (s : Int) (w : World) (h0 : 1 ≤ s) (h1 : s ≤ 100000) : Calls Tryz.prog 215 #[.int .i64 s] w (Ret w (.int .i64 0)) := by
  have k0 : decide (s < 1) = false := decide_eq_false (by omega)
  have k1 : decide (100000 < s) = false := decide_eq_false (by omega)
  clear h0 h1
  go_enter Tryz.func215, Tryz.ntmps215
  go_wp2
  go_ret
  exact ⟨rfl, Below.refl _ _⟩
set_option maxRecDepth 100000 in
theorem graded_ok (s : Int) (w : World) (h0 : 5 ≤ s) (h1 : s ≤ 12) : Calls Tryz.prog 166 #[.int .i64 s] w (Ret w (.int .i64 0)) := by
  have k0 : decide (s < 5) = false := decide_eq_false (by omega)
  have k1 : decide (12 < s) = false := decide_eq_false (by omega)
  clear h0 h1
  go_enter Tryz.func166, Tryz.ntmps166
  go_wp2
  go_ret
  exact ⟨rfl, Below.refl _ _⟩
set_option maxRecDepth 100000 in
theorem fsized_ok (s : Int) (w : World) (h0 : 1 ≤ s) (h1 : s ≤ 100000) : Calls Tryz.prog 115 #[.int .i64 s] w (Ret w (.int .i64 0)) := by
  have k0 : decide (s < 1) = false := decide_eq_false (by omega)
  have k1 : decide (100000 < s) = false := decide_eq_false (by omega)
  clear h0 h1
  go_enter Tryz.func115, Tryz.ntmps115
  go_wp2
  go_ret
  exact ⟨rfl, Below.refl _ _⟩
set_option maxRecDepth 100000 in
theorem gCheck_ok (h : Bool) (l g : Int) (w : World) (l0 : 0 ≤ l) (l1 : l ≤ 9) (g0 : 5 ≤ g) (g1 : g ≤ 12) : Calls Tryz.prog 116 #[.agg #[.bool h, .int .i64 l, .int .i64 g]] w (Ret w (.int .i64 0)) := by
  have k0 : decide (l < 0) = false := decide_eq_false (by omega)
  have k1 : decide (10 ≤ l) = false := decide_eq_false (by omega)
  have HG := Lib.hid (fun W => graded_ok g W g0 g1)
  have hB : Below w.heap.size w (w.alloc (.cells #[.bool h, .int .i64 l, .int .i64 g] 67)) := (Below.refl _ _).alloc (Nat.le_refl _) _
  clear l0 l1 g0 g1
  go_enter Tryz.func116, Tryz.ntmps116
  go_wp2_with fail
  ((with_reducible refine (HG.out _).mono ?_); rintro e w1 ⟨rfl, hb1⟩)
  have hB1 := hB.trans (hb1.mono hB.size)
  go_wp2
  go_ret
  exact ⟨rfl, hB1⟩
set_option maxRecDepth 100000 in
theorem Deviations_ok (h : Bool) (s l g : Int) (w : World) (s0 : 1 ≤ s) (s1 : s ≤ 100000) (l0 : 0 ≤ l) (l1 : l ≤ 9) (g0 : 5 ≤ g) (g1 : g ≤ 12) :
    Calls Tryz.prog 167 #[.int .i64 s, .agg #[.bool h, .int .i64 l, .int .i64 g]] w (Ret w (.tuple #[lim (devz h s l g), .int .i64 0])) := by
  have H1 := Lib.hid (fun W => sized_ok s W s0 s1)
  have H2 := Lib.hid (fun W => gCheck_ok h l g W l0 l1 g0 g1)
  have H3 := Lib.hid (fun W => deviations_c h s l g W s1 l0 l1 g0 g1)
  have J := LW.new w 67 h l g
  clear s0 s1 l0 l1 g0 g1
  generalize devz h s l g = D at *
  obtain ⟨D1, D2⟩ := D
  go_enter Tryz.func167, Tryz.ntmps167
  go_wp2_with fail
  ((with_reducible refine (H1.out _).mono ?_); rintro e w1 ⟨rfl, hb1⟩)
  have J1 := J.later hb1
  obtain ⟨c0, c1, c2⟩ := J1.cc
  go_wp2_with fail
  ((with_reducible refine (H2.out _).mono ?_); rintro e w2 ⟨rfl, hb2⟩)
  have J2 := J1.later hb2
  clear c0 c1 c2
  obtain ⟨c0, c1, c2⟩ := J2.cc
  go_wp2_with fail
  ((with_reducible refine (H3.out _).mono ?_); rintro e w3 ⟨rfl, hb3⟩)
  have J3 := J2.later hb3
  obtain ⟨k3, k4, k5, k6⟩ := J3.rc
  have J4 := J3.put D1 D2
  go_wp2
  refine bodyPost_ret (results_cell_row_tmp rfl _ _ (w.heap.size + 1) 25 _ _ _ (by kernel_rfl) J4.r Tryz.underlying25 rfl (by kernel_rfl)) rfl ?_
  exact ⟨rfl, J4.w⟩
theorem devz_bd {s l g : Int} (h : Bool) (l0 : 0 ≤ l) (l1 : l ≤ 9) (g0 : 5 ≤ g) (g1 : g ≤ 12) : (-1000 ≤ (devz h s l g).1 ∧ (devz h s l g).1 ≤ 1000) ∧ (-1000 ≤ (devz h s l g).2 ∧ (devz h s l g).2 ≤ 1000) := by
  obtain ⟨tb0, tb1⟩ := tol_bd (s := s) g0 g1
  obtain ⟨sb0, sb1⟩ := sha_bd (s := s) l0 l1
  have := dev3_bd (l := l) (show 0 ≤ tol s g by omega) tb1 sb0 sb1
  unfold devz
  split
  · simp only; omega
  · exact this
end Go.Proofs.Wk
/- FITS: what the program gives for right fits. -/
namespace Go.Proofs.Wk
open Go.RowKit

/-- Two blocks, and what was there before. -/
structure FW (w0 : World) (b : Nat) (r1 : Array Value) (t1 : TypeId) (r2 : Array Value) (t2 : TypeId) (w : World) : Prop where
  c : w.heap[b]? = some (.cells r1 t1 (0, 0))
  r : w.heap[b + 1]? = some (.cells r2 t2 (0, 0))
  w : Below w0.heap.size w0 w
  s : w0.heap.size ≤ b
theorem FW.later {w0 : World} {b : Nat} {r1 r2 : Array Value} {t1 t2 : TypeId} {w w' : World} (j : FW w0 b r1 t1 r2 t2 w) (hb : Below w.heap.size w w') : FW w0 b r1 t1 r2 t2 w' :=
  ⟨by rw [hb.block b (Array.getElem?_eq_some_iff.1 j.c).1]; exact j.c, by rw [hb.block (b + 1) (Array.getElem?_eq_some_iff.1 j.r).1]; exact j.r, j.w.trans (hb.mono j.w.size), j.s⟩
theorem FW.alloc {w0 : World} {b : Nat} {r1 r2 : Array Value} {t1 t2 : TypeId} {w : World} (j : FW w0 b r1 t1 r2 t2 w) (o : Obj) : FW w0 b r1 t1 r2 t2 (w.alloc o) := j.later ((Below.refl _ _).alloc (Nat.le_refl _) o)
theorem FW.new (w0 : World) (r1 : Array Value) (t1 : TypeId) (r2 : Array Value) (t2 : TypeId) : FW w0 w0.heap.size r1 t1 r2 t2 ((w0.alloc (.cells r1 t1)).alloc (.cells r2 t2)) := by
  have b1 : Below w0.heap.size w0 (w0.alloc (.cells r1 t1)) := (Below.refl _ _).alloc (Nat.le_refl _) _
  have b2 : Below (w0.alloc (.cells r1 t1)).heap.size (w0.alloc (.cells r1 t1)) ((w0.alloc (.cells r1 t1)).alloc (.cells r2 t2)) := (Below.refl _ _).alloc (Nat.le_refl _) _
  have h1 := heap_alloc_new w0 (.cells r1 t1)
  have h2 := heap_alloc_new (w0.alloc (.cells r1 t1)) (.cells r2 t2)
  rw [show (w0.alloc (.cells r1 t1)).heap.size = w0.heap.size + 1 by simp] at h2
  exact ⟨by rw [b2.block w0.heap.size (alloc_lt w0 _)]; exact h1, h2, b1.trans (b2.mono b1.size), Nat.le_refl _⟩
set_option maxRecDepth 100000 in
theorem Limits_ok (h : Bool) (s l g : Int) (w : World) (s0 : 1 ≤ s) (s1 : s ≤ 100000) (l0 : 0 ≤ l) (l1 : l ≤ 9) (g0 : 5 ≤ g) (g1 : g ≤ 12) (m0 : 1 ≤ s + (devz h s l g).1) (m1 : s + (devz h s l g).2 ≤ 100000) :
    Calls Tryz.prog 117 #[.int .i64 s, .agg #[.bool h, .int .i64 l, .int .i64 g]] w (Ret w (.tuple #[lim (s + (devz h s l g).1, s + (devz h s l g).2), .int .i64 0])) := by
  have H1 := Lib.hid (fun W => Deviations_ok h s l g W s0 s1 l0 l1 g0 g1)
  have J := LW.new w 67 h l g
  obtain ⟨⟨d0, d1⟩, d2, d3⟩ := devz_bd (s := s) h l0 l1 g0 g1
  generalize devz h s l g = D at *
  obtain ⟨D1, D2⟩ := D
  simp only at d0 d1 d2 d3 m0 m1
  have w1 : IntKind.i64.wrap (s + D1) = s + D1 := IntWalk.i64_in _ (by omega)
  have w2 : IntKind.i64.wrap (s + D2) = s + D2 := IntWalk.i64_in _ (by omega)
  simp only
  obtain ⟨L, q1⟩ : ∃ v, s + D1 = v := ⟨_, rfl⟩
  obtain ⟨M, q2⟩ : ∃ v, s + D2 = v := ⟨_, rfl⟩
  have j1 := w1.trans q1
  have j2 := w2.trans q2
  rw [q1] at m0 ⊢
  rw [q2] at m1 ⊢
  have k1 : decide (L < 1) = false := decide_eq_false (by omega)
  have k2 : decide (100000 < M) = false := decide_eq_false (by omega)
  clear w1 w2 q1 q2 s0 s1 l0 l1 g0 g1 m0 m1 d0 d1 d2 d3
  go_enter Tryz.func117, Tryz.ntmps117
  go_wp2_with fail
  ((with_reducible refine (H1.out _).mono ?_); rintro e w1 ⟨rfl, hb1⟩)
  have J1 := J.later hb1
  have J2 := J1.alloc (.cells #[.int .i64 L, .int .i64 M] 25)
  obtain ⟨k3, k4, k5, k6⟩ := J2.rc
  have J4 := J2.put L M
  clear J J1 J2
  go_wp2
  refine bodyPost_ret (results_cell_row_tmp rfl _ _ (w.heap.size + 1) 25 _ _ _ (by kernel_rfl) J4.r Tryz.underlying25 rfl (by kernel_rfl)) rfl ?_
  exact ⟨rfl, J4.w⟩
set_option maxRecDepth 100000 in
theorem clearance_c (a b c d : Int) (w : World) (ha : -1000000 ≤ a ∧ a ≤ 1000000) (hb : -1000000 ≤ b ∧ b ≤ 1000000) (hc : -1000000 ≤ c ∧ c ≤ 1000000) (hd : -1000000 ≤ d ∧ d ≤ 1000000) :
    Calls Tryz.prog 69 #[.agg #[.int .i64 a, .int .i64 b, .int .i64 c, .int .i64 d]] w (Ret w (lim (a - d, b - c))) := by
  have w1 : IntKind.i64.wrap (a - d) = a - d := IntWalk.i64_in _ (by omega)
  have w2 : IntKind.i64.wrap (b - c) = b - c := IntWalk.i64_in _ (by omega)
  have J := FW.new w #[.int .i64 a, .int .i64 b, .int .i64 c, .int .i64 d] 133 #[.int .i64 (a - d), .int .i64 (b - c)] 25
  clear ha hb hc hd
  go_enter Tryz.func69, Tryz.ntmps69
  go_wp2
  refine bodyPost_ret (results_cell_row rfl _ _ (w.heap.size + 1) 25 _ _ _ (by kernel_rfl) J.r Tryz.underlying25 rfl (by kernel_rfl)) rfl ?_
  exact ⟨rfl, J.w⟩
/-- A right fit with its limits, as a value. -/
abbrev fitV (s lh gh l gs : Int) : Value := .agg #[.int .i64 s, .bool true, .int .i64 lh, .int .i64 gh, .bool false, .int .i64 l, .int .i64 gs]
abbrev both4 (s lh gh l gs : Int) : Value := .agg #[.int .i64 s, .bool true, .int .i64 lh, .int .i64 gh, .bool false, .int .i64 l, .int .i64 gs, .int .i64 (s + (devz true s lh gh).1), .int .i64 (s + (devz true s lh gh).2), .int .i64 (s + (devz false s l gs).1), .int .i64 (s + (devz false s l gs).2)]
structure FitOK (s lh gh l gs : Int) : Prop where
  s0 : 1 ≤ s
  s1 : s ≤ 100000
  a0 : 0 ≤ lh
  a1 : lh ≤ 9
  b0 : 5 ≤ gh
  b1 : gh ≤ 12
  c0 : 0 ≤ l
  c1 : l ≤ 9
  d0 : 5 ≤ gs
  d1 : gs ≤ 12
  m0 : 1 ≤ s + (devz true s lh gh).1
  m1 : s + (devz true s lh gh).2 ≤ 100000
  n0 : 1 ≤ s + (devz false s l gs).1
  n1 : s + (devz false s l gs).2 ≤ 100000
set_option maxRecDepth 100000 in
set_option maxHeartbeats 2000000 in
theorem check_ok (s lh gh l gs : Int) (w : World) (hf : FitOK s lh gh l gs) : Calls Tryz.prog 68 #[fitV s lh gh l gs] w (Ret w (.tuple #[both4 s lh gh l gs, .int .i64 0])) := by
  have H1 := Lib.hid (fun W => fsized_ok s W hf.s0 hf.s1)
  have H2 := Lib.hid (fun W => gCheck_ok true lh gh W hf.a0 hf.a1 hf.b0 hf.b1)
  have H3 := Lib.hid (fun W => gCheck_ok false l gs W hf.c0 hf.c1 hf.d0 hf.d1)
  have H4 := Lib.hid (fun W => Limits_ok true s lh gh W hf.s0 hf.s1 hf.a0 hf.a1 hf.b0 hf.b1 hf.m0 hf.m1)
  have H5 := Lib.hid (fun W => Limits_ok false s l gs W hf.s0 hf.s1 hf.c0 hf.c1 hf.d0 hf.d1 hf.n0 hf.n1)
  clear hf
  unfold both4
  generalize s + (devz true s lh gh).1 = A1 at *
  generalize s + (devz true s lh gh).2 = A2 at *
  generalize s + (devz false s l gs).1 = B1 at *
  generalize s + (devz false s l gs).2 = B2 at *
  have x0 : ∀ W, (Instr.index 195 (.agg #[.bool true, .int .i64 lh, .int .i64 gh, .bool false, .int .i64 l, .int .i64 gs]) (.int .i64 0)).run Tryz.prog W = .ok (.agg #[.bool true, .int .i64 lh, .int .i64 gh]) W := fun W => rfl
  have x1 : ∀ W, (Instr.index 195 (.agg #[.bool true, .int .i64 lh, .int .i64 gh, .bool false, .int .i64 l, .int .i64 gs]) (.int .i64 1)).run Tryz.prog W = .ok (.agg #[.bool false, .int .i64 l, .int .i64 gs]) W := fun W => rfl
  have J := FW.new w #[.int .i64 s, .bool true, .int .i64 lh, .int .i64 gh, .bool false, .int .i64 l, .int .i64 gs] 69 #[.int .i64 0, .bool false, .int .i64 0, .int .i64 0, .bool false, .int .i64 0, .int .i64 0, .int .i64 0, .int .i64 0, .int .i64 0, .int .i64 0] 135
  go_enter Tryz.func68, Tryz.ntmps68
  go_wp2_with fail
  ((with_reducible refine (H1.out _).mono ?_); rintro e w1 ⟨rfl, hb1⟩)
  have J1 := J.later hb1
  clear J hb1
  have c0 : w1.cell? ⟨w.heap.size, 0, none⟩ = some (.int .i64 s) := by rw [cell_of_row _ _ _ _ _ _ J1.c]; rfl
  have c1 : w1.cell? ⟨w.heap.size, 1, none⟩ = some (.bool true) := by rw [cell_of_row _ _ _ _ _ _ J1.c]; rfl
  have c2 : w1.cell? ⟨w.heap.size, 2, none⟩ = some (.int .i64 lh) := by rw [cell_of_row _ _ _ _ _ _ J1.c]; rfl
  have c3 : w1.cell? ⟨w.heap.size, 3, none⟩ = some (.int .i64 gh) := by rw [cell_of_row _ _ _ _ _ _ J1.c]; rfl
  have c4 : w1.cell? ⟨w.heap.size, 4, none⟩ = some (.bool false) := by rw [cell_of_row _ _ _ _ _ _ J1.c]; rfl
  have c5 : w1.cell? ⟨w.heap.size, 5, none⟩ = some (.int .i64 l) := by rw [cell_of_row _ _ _ _ _ _ J1.c]; rfl
  have c6 : w1.cell? ⟨w.heap.size, 6, none⟩ = some (.int .i64 gs) := by rw [cell_of_row _ _ _ _ _ _ J1.c]; rfl
  go_wp2_with fail
  go_loopw [23] (fun si wr => ∃ i : Nat, si = .int .i64 (i : Int) ∧ i ≤ 2 ∧ FW w w.heap.size #[.int .i64 s, .bool true, .int .i64 lh, .int .i64 gh, .bool false, .int .i64 l, .int .i64 gs] 69 #[.int .i64 0, .bool false, .int .i64 0, .int .i64 0, .bool false, .int .i64 0, .int .i64 0, .int .i64 0, .int .i64 0, .int .i64 0, .int .i64 0] 135 wr) (fun si _ => 2 - (intOf si).toNat)
  case atStart => exact ⟨0, rfl, by omega, J1⟩
  case round =>
    obtain ⟨i, rfl, hi, J2⟩ := hrel
    have hi3 : i = 0 ∨ i = 1 ∨ i = 2 := by omega
    clear c0 c1 c2 c3 c4 c5 c6
    rcases hi3 with rfl | rfl | rfl
    · have J3 := J2.alloc (.cells #[.bool true, .int .i64 lh, .int .i64 gh] 67)
      go_wp2_with fail
      ((with_reducible refine (H2.out _).mono ?_); rintro e w2 ⟨rfl, hb2⟩)
      have J4 := J3.later hb2
      go_wp2
      go_roundw
      case rel => exact ⟨1, by go_num, by omega, J4⟩
      case measure => simp [intOf]
    · have J3 := J2.alloc (.cells #[.bool false, .int .i64 l, .int .i64 gs] 67)
      go_wp2_with fail
      ((with_reducible refine (H3.out _).mono ?_); rintro e w2 ⟨rfl, hb2⟩)
      have J4 := J3.later hb2
      go_wp2
      go_roundw
      case rel => exact ⟨2, by go_num, by omega, J4⟩
      case measure => simp [intOf]
    · 
      have c0 : wr.cell? ⟨w.heap.size, 0, none⟩ = some (.int .i64 s) := by rw [cell_of_row _ _ _ _ _ _ J2.c]; rfl
      have c1 : wr.cell? ⟨w.heap.size, 1, none⟩ = some (.bool true) := by rw [cell_of_row _ _ _ _ _ _ J2.c]; rfl
      have c2 : wr.cell? ⟨w.heap.size, 2, none⟩ = some (.int .i64 lh) := by rw [cell_of_row _ _ _ _ _ _ J2.c]; rfl
      have c3 : wr.cell? ⟨w.heap.size, 3, none⟩ = some (.int .i64 gh) := by rw [cell_of_row _ _ _ _ _ _ J2.c]; rfl
      have c4 : wr.cell? ⟨w.heap.size, 4, none⟩ = some (.bool false) := by rw [cell_of_row _ _ _ _ _ _ J2.c]; rfl
      have c5 : wr.cell? ⟨w.heap.size, 5, none⟩ = some (.int .i64 l) := by rw [cell_of_row _ _ _ _ _ _ J2.c]; rfl
      have c6 : wr.cell? ⟨w.heap.size, 6, none⟩ = some (.int .i64 gs) := by rw [cell_of_row _ _ _ _ _ _ J2.c]; rfl
      go_wp2_with fail
      ((with_reducible refine (H4.out _).mono ?_); rintro e w4 ⟨rfl, hb4⟩)
      have J5 := (J2.later hb4).alloc (.cells #[.int .i64 A1, .int .i64 A2] 25)
      clear c0 c1 c2 c3 c4 c5 c6 J2
      have c0 : (w4.alloc (.cells #[.int .i64 A1, .int .i64 A2] 25)).cell? ⟨w.heap.size, 0, none⟩ = some (.int .i64 s) := by rw [cell_of_row _ _ _ _ _ _ J5.c]; rfl
      have c1 : (w4.alloc (.cells #[.int .i64 A1, .int .i64 A2] 25)).cell? ⟨w.heap.size, 1, none⟩ = some (.bool true) := by rw [cell_of_row _ _ _ _ _ _ J5.c]; rfl
      have c2 : (w4.alloc (.cells #[.int .i64 A1, .int .i64 A2] 25)).cell? ⟨w.heap.size, 2, none⟩ = some (.int .i64 lh) := by rw [cell_of_row _ _ _ _ _ _ J5.c]; rfl
      have c3 : (w4.alloc (.cells #[.int .i64 A1, .int .i64 A2] 25)).cell? ⟨w.heap.size, 3, none⟩ = some (.int .i64 gh) := by rw [cell_of_row _ _ _ _ _ _ J5.c]; rfl
      have c4 : (w4.alloc (.cells #[.int .i64 A1, .int .i64 A2] 25)).cell? ⟨w.heap.size, 4, none⟩ = some (.bool false) := by rw [cell_of_row _ _ _ _ _ _ J5.c]; rfl
      have c5 : (w4.alloc (.cells #[.int .i64 A1, .int .i64 A2] 25)).cell? ⟨w.heap.size, 5, none⟩ = some (.int .i64 l) := by rw [cell_of_row _ _ _ _ _ _ J5.c]; rfl
      have c6 : (w4.alloc (.cells #[.int .i64 A1, .int .i64 A2] 25)).cell? ⟨w.heap.size, 6, none⟩ = some (.int .i64 gs) := by rw [cell_of_row _ _ _ _ _ _ J5.c]; rfl
      go_wp2_with fail
      ((with_reducible refine (H5.out _).mono ?_); rintro e w5 ⟨rfl, hb5⟩)
      have K8 := (hb5.block _ (alloc_lt _ _)).trans (heap_alloc_new w4 (.cells #[.int .i64 A1, .int .i64 A2] 25))
      have hba : Below w5.heap.size w5 (w5.alloc (.cells #[.int .i64 B1, .int .i64 B2] 25)) := (Below.refl _ _).alloc (Nat.le_refl _) _
      have J6 := (J5.later hb5).later hba
      have K9 := (hba.block _ (Array.getElem?_eq_some_iff.1 K8).1).trans K8
      clear c0 c1 c2 c3 c4 c5 c6 J5 K8
      have c0 : (w5.alloc (.cells #[.int .i64 B1, .int .i64 B2] 25)).cell? ⟨w.heap.size, 0, none⟩ = some (.int .i64 s) := by rw [cell_of_row _ _ _ _ _ _ J6.c]; rfl
      have c1 : (w5.alloc (.cells #[.int .i64 B1, .int .i64 B2] 25)).cell? ⟨w.heap.size, 1, none⟩ = some (.bool true) := by rw [cell_of_row _ _ _ _ _ _ J6.c]; rfl
      have c2 : (w5.alloc (.cells #[.int .i64 B1, .int .i64 B2] 25)).cell? ⟨w.heap.size, 2, none⟩ = some (.int .i64 lh) := by rw [cell_of_row _ _ _ _ _ _ J6.c]; rfl
      have c3 : (w5.alloc (.cells #[.int .i64 B1, .int .i64 B2] 25)).cell? ⟨w.heap.size, 3, none⟩ = some (.int .i64 gh) := by rw [cell_of_row _ _ _ _ _ _ J6.c]; rfl
      have c4 : (w5.alloc (.cells #[.int .i64 B1, .int .i64 B2] 25)).cell? ⟨w.heap.size, 4, none⟩ = some (.bool false) := by rw [cell_of_row _ _ _ _ _ _ J6.c]; rfl
      have c5 : (w5.alloc (.cells #[.int .i64 B1, .int .i64 B2] 25)).cell? ⟨w.heap.size, 5, none⟩ = some (.int .i64 l) := by rw [cell_of_row _ _ _ _ _ _ J6.c]; rfl
      have c6 : (w5.alloc (.cells #[.int .i64 B1, .int .i64 B2] 25)).cell? ⟨w.heap.size, 6, none⟩ = some (.int .i64 gs) := by rw [cell_of_row _ _ _ _ _ _ J6.c]; rfl
      have d0 := cell_of_row _ _ 0 _ _ _ K9
      have d1 := cell_of_row _ _ 1 _ _ _ K9
      go_upto_region 19 with fail
      rename_i K0 hK0
      refine wp_region_lit ?_
      iterate 5 (refine wpList_plain rfl fun K hK => ?_; go_simp; refine hK _ _ ?_; clear hK; clear K)
      refine wpList_store_row rfl 135 (.tmp 2) (.tmp 71) rfl (w.heap.size + 1) #[.int .i64 s, .bool true, .int .i64 lh, .int .i64 gh, .bool false, .int .i64 l, .int .i64 gs, .int .i64 A1, .int .i64 A2, .int .i64 B1, .int .i64 B2] rfl (by kernel_rfl) 135 #[.int .i64 0, .bool false, .int .i64 0, .int .i64 0, .bool false, .int .i64 0, .int .i64 0, .int .i64 0, .int .i64 0, .int .i64 0, .int .i64 0] J6.r (by kernel_rfl) rfl (by kernel_rfl) ?_
      refine wpList_plain rfl fun K hK => ?_
      go_simp
      refine hK _ _ ?_
      clear hK; clear K
      refine wpList_nil ?_
      refine hK0 _ _ (wp_ret ?_)
      refine bodyPost_ret (results_cell_row_tmp rfl _ _ (w.heap.size + 1) 135 #[.int .i64 s, .bool true, .int .i64 lh, .int .i64 gh, .bool false, .int .i64 l, .int .i64 gs, .int .i64 A1, .int .i64 A2, .int .i64 B1, .int .i64 B2] _ _ (by kernel_rfl) (setRow_heap _ _ _ _ _ _ J6.r) Tryz.underlying135 rfl (by kernel_rfl)) rfl ?_
      exact ⟨rfl, J6.w.trans ⟨rfl, rfl, rfl, by simp [World.setRow], fun k hk => setRow_other _ _ k _ (by omega)⟩⟩
set_option maxRecDepth 100000 in
set_option maxHeartbeats 2000000 in
theorem Clearance_ok (s lh gh l gs : Int) (w : World) (hf : FitOK s lh gh l gs) : Calls Tryz.prog 25 #[fitV s lh gh l gs] w (Ret w (.tuple #[lim (s + (devz true s lh gh).1 - (s + (devz false s l gs).2), s + (devz true s lh gh).2 - (s + (devz false s l gs).1)), .int .i64 0])) := by
  have H1 := Lib.hid (fun W => check_ok s lh gh l gs W hf)
  obtain ⟨⟨x0, x1⟩, x2, x3⟩ := devz_bd (s := s) true hf.a0 hf.a1 hf.b0 hf.b1
  obtain ⟨⟨y0, y1⟩, y2, y3⟩ := devz_bd (s := s) false hf.c0 hf.c1 hf.d0 hf.d1
  have z0 := hf.s0; have z1 := hf.s1
  unfold both4 at H1
  have H2 := Lib.hid (fun W => clearance_c (s + (devz true s lh gh).1) (s + (devz true s lh gh).2) (s + (devz false s l gs).1) (s + (devz false s l gs).2) W (by omega) (by omega) (by omega) (by omega))
  clear hf x0 x1 x2 x3 y0 y1 y2 y3 z0 z1
  generalize s + (devz true s lh gh).1 = A1 at *
  generalize s + (devz true s lh gh).2 = A2 at *
  generalize s + (devz false s l gs).1 = B1 at *
  generalize s + (devz false s l gs).2 = B2 at *
  generalize A1 - B2 = L at *
  generalize A2 - B1 = M at *
  have J := FW.new w #[.int .i64 s, .bool true, .int .i64 lh, .int .i64 gh, .bool false, .int .i64 l, .int .i64 gs] 69 #[.int .i64 0, .int .i64 0] 25
  go_enter Tryz.func25, Tryz.ntmps25
  go_wp2_with fail
  ((with_reducible refine (H1.out _).mono ?_); rintro e w1 ⟨rfl, hb1⟩)
  have J1 := J.later hb1
  have J2 := J1.alloc (.cells #[.int .i64 s, .bool true, .int .i64 lh, .int .i64 gh, .bool false, .int .i64 l, .int .i64 gs, .int .i64 A1, .int .i64 A2, .int .i64 B1, .int .i64 B2] 135)
  go_wp2_with fail
  ((with_reducible refine (H2.out _).mono ?_); rintro e w2 ⟨rfl, hb2⟩)
  have J3 := J2.later hb2
  have k0 := cell_of_row _ _ 0 _ _ _ J3.r
  have k1 := cell_of_row _ _ 1 _ _ _ J3.r
  have k2 := frozen_of_row _ _ 0 _ _ J3.r
  have k3 := frozen_of_row _ _ 1 _ _ J3.r
  have hrr := heap_setCell_same _ (w.heap.size + 1) 1 _ _ (.int .i64 M) (heap_setCell_same w2 (w.heap.size + 1) 0 _ _ (.int .i64 L) J3.r)
  have hbb := (J3.w.setCell (p := ⟨w.heap.size + 1, 0, none⟩) (by show w.heap.size ≤ w.heap.size + 1; omega) (.int .i64 L)).setCell (p := ⟨w.heap.size + 1, 1, none⟩) (by show w.heap.size ≤ w.heap.size + 1; omega) (.int .i64 M)
  go_wp2
  refine bodyPost_ret (results_cell_row_tmp rfl _ _ (w.heap.size + 1) 25 #[.int .i64 L, .int .i64 M] _ _ (by kernel_rfl) hrr Tryz.underlying25 rfl (by kernel_rfl)) rfl ?_
  exact ⟨rfl, hbb⟩
def kindZ (L M : Int) : Int := if 0 ≤ L then 0 else if M ≤ 0 then 2 else 1
end Go.Proofs.Wk
/- FITS: what the reference gives. -/
namespace Go.Proofs.Wk
open Go.RowKit

/-- The numbers of the errors. -/
def szE (s : Int) : Int := if s < 1 ∨ 100000 < s then 2 else 0
def ckE (l g : Int) : Int := if l < 0 ∨ 9 < l then 1 else if g < 5 ∨ 12 < g then 2 else 0
set_option maxRecDepth 100000 in
theorem Size_c (s : Int) (w : World) : Calls Tryz.prog 64 #[.int .i64 s] w (Ret w (.int .i64 (szE s))) := by
  have key : ∀ b1 b2 : Bool, decide (s < 1) = b1 → decide (100000 < s) = b2 → szE s = (if b1 || b2 then 2 else 0) := by
    rintro b1 b2 rfl rfl; unfold szE; simp
  obtain ⟨b1, e1⟩ : ∃ b, decide (s < 1) = b := ⟨_, rfl⟩
  obtain ⟨b2, e2⟩ : ∃ b, decide (100000 < s) = b := ⟨_, rfl⟩
  rw [key b1 b2 e1 e2]
  clear key
  cases b1 <;> cases b2
  all_goals
    go_enter Tryz.func64, Tryz.ntmps64
    go_wp2
    go_ret
    exact ⟨rfl, Below.refl _ _⟩
set_option maxRecDepth 100000 in
theorem rCheck_c (h : Bool) (l g : Int) (w : World) : Calls Tryz.prog 65 #[.agg #[.bool h, .int .i64 l, .int .i64 g]] w (Ret w (.int .i64 (ckE l g))) := by
  have key : ∀ b1 b2 b3 b4 : Bool, decide (l < 0) = b1 → decide (9 < l) = b2 → decide (g < 5) = b3 → decide (12 < g) = b4 → ckE l g = (if b1 || b2 then 1 else if b3 || b4 then 2 else 0) := by
    rintro b1 b2 b3 b4 rfl rfl rfl rfl; unfold ckE; simp
  obtain ⟨b1, e1⟩ : ∃ b, decide (l < 0) = b := ⟨_, rfl⟩
  obtain ⟨b2, e2⟩ : ∃ b, decide (9 < l) = b := ⟨_, rfl⟩
  obtain ⟨b3, e3⟩ : ∃ b, decide (g < 5) = b := ⟨_, rfl⟩
  obtain ⟨b4, e4⟩ : ∃ b, decide (12 < g) = b := ⟨_, rfl⟩
  rw [key b1 b2 b3 b4 e1 e2 e3 e4]
  have hB : Below w.heap.size w (w.alloc (.cells #[.bool h, .int .i64 l, .int .i64 g] 70)) := (Below.refl _ _).alloc (Nat.le_refl _) _
  clear key
  cases b1 <;> cases b2 <;> cases b3 <;> cases b4
  all_goals
    go_enter Tryz.func65, Tryz.ntmps65
    go_wp2
    go_ret
    exact ⟨rfl, hB⟩
theorem mo_ix {s : Int} {i : Nat} (hi : i < 7) : mo i < s ↔ (i : Int) < ixS s := by
  have : i = 0 ∨ i = 1 ∨ i = 2 ∨ i = 3 ∨ i = 4 ∨ i = 5 ∨ i = 6 := by omega
  unfold ixS
  rcases this with rfl | rfl | rfl | rfl | rfl | rfl | rfl <;> simp only [mo, List.getD_cons_zero, List.getD_cons_succ] <;> (repeat' split) <;> omega
abbrev endsR : Array Value := #[.int .i64 3000, .int .i64 6000, .int .i64 10000, .int .i64 18000, .int .i64 30000, .int .i64 50000, .int .i64 80000]
theorem ends_cell {w : World} {b : Nat} {T : TypeId} (hR : w.heap[b]? = some (.cells endsR T (0, 0))) {i : Nat} (hi : i < 7) : w.cell? ⟨b, i, none⟩ = some (.int .i64 (mo i)) := by
  have : i = 0 ∨ i = 1 ∨ i = 2 ∨ i = 3 ∨ i = 4 ∨ i = 5 ∨ i = 6 := by omega
  rcases this with rfl | rfl | rfl | rfl | rfl | rfl | rfl <;> (rw [cell_of_row _ _ _ _ _ _ hR]; rfl)
set_option maxRecDepth 100000 in
set_option maxHeartbeats 1000000 in
theorem At_c (s : Int) (w : World) : Calls Tryz.prog 214 #[.int .i64 s] w (Ret w (.int .i64 (ixS s))) := by
  have hB : Below w.heap.size w (w.alloc (.cells endsR 3)) := (Below.refl _ _).alloc (Nat.le_refl _) _
  have hR : (w.alloc (.cells endsR 3)).heap[w.heap.size]? = some (.cells endsR 3 (0, 0)) := heap_alloc_new _ _
  obtain ⟨x0, x1⟩ := ixS_bd s
  have HR := Lib.hid hR
  clear hR
  go_enter Tryz.func214, Tryz.ntmps214
  go_wp2_with fail
  go_loopw [4, 5] (fun sn si wr => ∃ i : Nat, si = .int .i64 (i : Int) ∧ i ≤ 7 ∧ sn = .int .i64 (min (i : Int) (ixS s)) ∧ wr = w.alloc (.cells endsR 3)) (fun _ si _ => 7 - (intOf si).toNat)
  case atStart => exact ⟨0, rfl, by omega, by rw [show min ((0 : Nat) : Int) (ixS s) = 0 by omega], rfl⟩
  case round =>
    obtain ⟨i, rfl, hi, rfl, rfl⟩ := hrel
    by_cases hlt : i < 7
    · have k1 := ends_cell HR.out hlt
      have k2 := mo_ix (s := s) hlt
      by_cases hs : (i : Int) < ixS s
      · have k3 : decide (mo i < s) = true := decide_eq_true (k2.2 hs)
        have k4 : min (i : Int) (ixS s) = i := by omega
        have k5 : min ((i + 1 : Nat) : Int) (ixS s) = (i + 1 : Nat) := by omega
        rw [k4]
        clear k2 k4 hs
        generalize mo i = m at *
        go_wp2
        go_roundw
        case rel => exact ⟨i + 1, by go_num, by omega, by rw [k5]; go_num, trivial⟩
        case measure => simp [intOf]; omega
      · have k3 : decide (mo i < s) = false := decide_eq_false (fun h => hs (k2.1 h))
        have k4 : min (i : Int) (ixS s) = ixS s := by omega
        have k5 : min ((i + 1 : Nat) : Int) (ixS s) = ixS s := by omega
        rw [k4]
        clear k2 k4 hs
        generalize mo i = m at *
        generalize ixS s = I at *
        go_wp2
        go_roundw
        case rel => exact ⟨i + 1, by go_num, by omega, by rw [k5], trivial⟩
        case measure => simp [intOf]; omega
    · obtain rfl : i = 7 := by omega
      rw [show min ((7 : Nat) : Int) (ixS s) = ixS s by omega]
      generalize ixS s = I at *
      go_wp2
      go_ret
      exact ⟨rfl, hB⟩
abbrev baseR : Array Value := #[.int .i64 6, .int .i64 8, .int .i64 9, .int .i64 11, .int .i64 13, .int .i64 16, .int .i64 19, .int .i64 22]
theorem base_cell {w : World} {b : Nat} {T : TypeId} (hR : w.heap[b]? = some (.cells baseR T (0, 0))) (s : Int) : w.cell? ⟨b, (ixS s).toNat, none⟩ = some (.int .i64 (baS s)) := by
  rw [cell_of_row _ _ _ _ _ _ hR]
  unfold ixS baS
  repeat' split
  all_goals rfl
set_option maxRecDepth 100000 in
theorem Base_c (s : Int) (w : World) : Calls Tryz.prog 165 #[.int .i64 s] w (Ret w (.int .i64 (baS s))) := by
  have hB : Below w.heap.size w (w.alloc (.cells baseR 3)) := (Below.refl _ _).alloc (Nat.le_refl _) _
  obtain ⟨x0, x1⟩ := ixS_bd s
  have H := Lib.hid (fun W => At_c s W)
  have key : ∀ w1 : World, Below (w.alloc (.cells baseR 3)).heap.size (w.alloc (.cells baseR 3)) w1 → w1.cell? ⟨w.heap.size, (ixS s).toNat, none⟩ = some (.int .i64 (baS s)) := fun w1 hb =>
    base_cell ((hb.block _ (alloc_lt _ _)).trans (heap_alloc_new _ _)) s
  have KEY := Lib.hid key
  clear key
  obtain ⟨I, hI⟩ : ∃ I : Nat, ixS s = (I : Int) := ⟨(ixS s).toNat, by omega⟩
  rw [hI] at H KEY x0 x1
  have hlt : I < 8 := by omega
  rw [Int.toNat_natCast] at KEY
  clear hI x0 x1
  generalize baS s = B at *
  go_enter Tryz.func165, Tryz.ntmps165
  go_wp2_with fail
  ((with_reducible refine (H.out _).mono ?_); rintro e w1 ⟨rfl, hb1⟩)
  have k1 := KEY.out w1 hb1
  have hB1 := hB.trans (hb1.mono hB.size)
  go_wp2
  go_ret
  exact ⟨rfl, hB1⟩
abbrev facR : Array Value := #[.int .i64 7, .int .i64 10, .int .i64 16, .int .i64 25, .int .i64 40, .int .i64 64, .int .i64 100, .int .i64 160]
theorem fac_cell {w : World} {b : Nat} {T : TypeId} (hR : w.heap[b]? = some (.cells facR T (0, 0))) {g : Int} (h0 : 5 ≤ g) (h1 : g ≤ 12) : w.cell? ⟨b, (g - 5).toNat, none⟩ = some (.int .i64 (fac g)) := by
  rw [cell_of_row _ _ _ _ _ _ hR]
  have : g = 5 ∨ g = 6 ∨ g = 7 ∨ g = 8 ∨ g = 9 ∨ g = 10 ∨ g = 11 ∨ g = 12 := by omega
  rcases this with rfl | rfl | rfl | rfl | rfl | rfl | rfl | rfl <;> rfl
abbrev shfR : Array Value := #[.int .i64 50, .int .i64 31, .int .i64 16, .int .i64 6, .int .i64 0, .int .i64 0, .int .i64 2, .int .i64 9, .int .i64 15, .int .i64 22]
theorem shf_cell {w : World} {b : Nat} {T : TypeId} (hR : w.heap[b]? = some (.cells shfR T (0, 0))) {l : Int} (h0 : 0 ≤ l) (h1 : l ≤ 9) : w.cell? ⟨b, l.toNat, none⟩ = some (.int .i64 (shf l)) := by
  rw [cell_of_row _ _ _ _ _ _ hR]
  have : l = 0 ∨ l = 1 ∨ l = 2 ∨ l = 3 ∨ l = 4 ∨ l = 5 ∨ l = 6 ∨ l = 7 ∨ l = 8 ∨ l = 9 := by omega
  rcases this with rfl | rfl | rfl | rfl | rfl | rfl | rfl | rfl | rfl | rfl <;> rfl
theorem fresh_later2 {w w' : World} {o : Obj} (h : Below (w.alloc o).heap.size (w.alloc o) w') : w'.heap[w.heap.size]? = some o := (h.block _ (alloc_lt w o)).trans (heap_alloc_new w o)
set_option maxRecDepth 100000 in
set_option maxHeartbeats 2000000 in
theorem Wide_c (s g : Int) (w : World) (g0 : 5 ≤ g) (g1 : g ≤ 12) : Calls Tryz.prog 164 #[.int .i64 s, .int .i64 g] w (Ret w (.int .i64 (tol s g))) := by
  have HB := Lib.hid (fun W => Base_c s W)
  have KEY := Lib.hid (fun (W : World) (h : W.heap[w.heap.size]? = some (.cells facR 3 (0, 0))) => fac_cell h g0 g1)
  have kk : ∀ W : World, (W.alloc (.cells facR 3)).cell? ⟨W.heap.size, (g - 5).toNat, none⟩ = some (.int .i64 (fac g)) := fun W => fac_cell (heap_alloc_new W _) g0 g1
  obtain ⟨a, b⟩ := baS_bd s; obtain ⟨c, d⟩ := fac_bd g0 g1
  have hp := prod_bd (show 0 ≤ baS s by omega) b (show 0 ≤ fac g by omega) d
  obtain ⟨p0, p1⟩ := hp
  have w0 : IntKind.i64.wrap (g - 5) = g - 5 := IntWalk.i64_in _ (by omega)
  have w1 : IntKind.i64.wrap (baS s * fac g) = baS s * fac g := IntWalk.i64_in _ (by omega)
  have w2 : IntKind.i64.wrap (baS s * fac g + 5) = baS s * fac g + 5 := IntWalk.i64_in _ (by omega)
  have q : (baS s * fac g + 5).tdiv 10 = tol s g := by rw [Int.tdiv_eq_ediv_of_nonneg (by omega)]; rfl
  have w3 : IntKind.i64.wrap (tol s g) = tol s g := IntWalk.i64_in _ (by have := tol_bd (s := s) g0 g1; omega)
  obtain ⟨N, hN⟩ : ∃ N : Nat, g - 5 = (N : Int) := ⟨(g - 5).toNat, by omega⟩
  have hlt : (N : Int) < 8 := by omega
  have hlt0 : (0 : Int) ≤ (N : Int) := by omega
  have hlt2 : N < 8 := by omega
  rw [hN, Int.toNat_natCast] at KEY kk
  rw [hN] at w0
  have j0 : IntKind.i64.wrap (g - 5) = (N : Int) := by rw [hN]; exact w0
  clear hN w0 g0 g1
  generalize tol s g = T at *
  generalize baS s = B at *
  generalize fac g = G at *
  obtain ⟨PP, q1⟩ : ∃ v, B * G = v := ⟨_, rfl⟩
  have j1 := w1.trans q1
  rw [q1] at w2 q p0 p1
  clear w1 q1
  go_enter Tryz.func164, Tryz.ntmps164
  go_wp2_with fail
  go_region_with (first | (go_at_call 165; (with_reducible refine (HB.out _).mono ?_); rintro e w' ⟨rfl, hb'⟩; (first | have K := KEY.out w' (fresh_later hb') | skip)))
  all_goals
    go_wp2
    go_ret
    first
      | exact ⟨rfl, ((Below.refl w.heap.size w).drew.trans hb').alloc hb'.size _⟩
      | exact ⟨rfl, (((Below.refl w.heap.size w).alloc (Nat.le_refl _) _).drew).trans (hb'.mono (Nat.le_of_lt (alloc_lt w _)))⟩
/-- The result's block. -/
structure OB (w0 : World) (b : Nat) (A B : Int) (w : World) : Prop where
  r : w.heap[b]? = some (.cells #[.int .i64 A, .int .i64 B] 25 (0, 0))
  w : Below w0.heap.size w0 w
  s : w0.heap.size ≤ b
theorem OB.later {w0 : World} {b : Nat} {A B : Int} {w w' : World} (j : OB w0 b A B w) (hb : Below w.heap.size w w') : OB w0 b A B w' :=
  ⟨by rw [hb.block b (Array.getElem?_eq_some_iff.1 j.r).1]; exact j.r, j.w.trans (hb.mono j.w.size), j.s⟩
theorem OB.alloc {w0 : World} {b : Nat} {A B : Int} {w : World} (j : OB w0 b A B w) (o : Obj) : OB w0 b A B (w.alloc o) := j.later ((Below.refl _ _).alloc (Nat.le_refl _) o)
theorem OB.drew {w0 : World} {b : Nat} {A B : Int} {w : World} (j : OB w0 b A B w) : OB w0 b A B w.drew := j.later (Below.refl _ _).drew
theorem OB.rc {w0 : World} {b : Nat} {A B : Int} {w : World} (j : OB w0 b A B w) : w.cell? ⟨b, 0, none⟩ = some (.int .i64 A) ∧ w.cell? ⟨b, 1, none⟩ = some (.int .i64 B) ∧ w.frozen? ⟨b, 0, none⟩ = false ∧ w.frozen? ⟨b, 1, none⟩ = false :=
  ⟨by rw [cell_of_row _ _ _ _ _ _ j.r]; rfl, by rw [cell_of_row _ _ _ _ _ _ j.r]; rfl, frozen_of_row _ _ _ _ _ j.r, frozen_of_row _ _ _ _ _ j.r⟩
theorem OB.put {w0 : World} {b : Nat} {A B : Int} {w : World} (j : OB w0 b A B w) (A' B' : Int) : OB w0 b A' B' ((w.setCell ⟨b, 0, none⟩ (.int .i64 A')).setCell ⟨b, 1, none⟩ (.int .i64 B')) :=
  ⟨heap_setCell_same _ b 1 _ _ _ (heap_setCell_same w b 0 _ _ (.int .i64 A') j.r), (j.w.setCell j.s _).setCell j.s _, j.s⟩
theorem OB.new (w0 : World) : OB w0 w0.heap.size 0 0 (w0.alloc (.cells #[.int .i64 0, .int .i64 0] 25)) := ⟨heap_alloc_new w0 _, (Below.refl _ _).alloc (Nat.le_refl _) _, Nat.le_refl _⟩
set_option maxRecDepth 100000 in
set_option maxHeartbeats 2000000 in
theorem shaft_c (s l g : Int) (w : World) (l0 : 0 ≤ l) (l1 : l ≤ 9) (g0 : 5 ≤ g) (g1 : g ≤ 12) : Calls Tryz.prog 114 #[.int .i64 s, .int .i64 l, .int .i64 g] w (Ret w (lim (dev3 l (tol s g) (sha s l)))) := by
  have HW := Lib.hid (fun W => Wide_c s g W g0 g1)
  have HB := Lib.hid (fun W => Base_c s W)
  have KEY := Lib.hid (fun (V W : World) (h : W.heap[V.heap.size]? = some (.cells shfR 3 (0, 0))) => shf_cell h l0 l1)
  have kk : ∀ W : World, (W.alloc (.cells shfR 3)).cell? ⟨W.heap.size, l.toNat, none⟩ = some (.int .i64 (shf l)) := fun W => shf_cell (heap_alloc_new W _) l0 l1
  obtain ⟨tb0, tb1⟩ := tol_bd (s := s) g0 g1
  obtain ⟨sb0, sb1⟩ := sha_bd (s := s) l0 l1
  obtain ⟨a, b⟩ := baS_bd s; obtain ⟨c, d⟩ := shf_bd l0 l1
  obtain ⟨p0, p1⟩ := prod_bd (show 0 ≤ baS s by omega) b c d
  have w1 : IntKind.i64.wrap (baS s * shf l) = baS s * shf l := IntWalk.i64_in _ (by omega)
  have q : baS s * shf l / 10 = sha s l := rfl
  have w3 : IntKind.i64.wrap (sha s l) = sha s l := IntWalk.i64_in _ (by omega)
  obtain ⟨N, hN⟩ : ∃ N : Nat, l = (N : Int) := ⟨l.toNat, by omega⟩
  have hlt : (N : Int) < 10 := by omega
  have hlt0 : (0 : Int) ≤ (N : Int) := by omega
  have hlt2 : N < 10 := by omega
  have hl3 : dev3 l (tol s g) (sha s l) = if l ≤ 4 then (-(sha s l) - tol s g, -(sha s l)) else if l = 5 then (-(tol s g / 2), tol s g / 2) else (sha s l, sha s l + tol s g) := rfl
  rw [hl3]
  clear hl3 l0 l1 g0 g1
  have JN := OB.new w
  have v1 : IntKind.i64.wrap (-sha s l) = -sha s l := IntWalk.i64_in _ (by omega)
  have v2 : IntKind.i64.wrap (-sha s l - tol s g) = -sha s l - tol s g := IntWalk.i64_in _ (by omega)
  have v3 : IntKind.i64.wrap (sha s l + tol s g) = sha s l + tol s g := IntWalk.i64_in _ (by omega)
  have v4 : (tol s g).tdiv 2 = tol s g / 2 := Int.tdiv_eq_ediv_of_nonneg (by omega)
  have v5 : IntKind.i64.wrap (tol s g / 2) = tol s g / 2 := IntWalk.i64_in _ (by omega)
  have v6 : IntKind.i64.wrap (-(tol s g / 2)) = -(tol s g / 2) := IntWalk.i64_in _ (by omega)
  generalize tol s g = T at *
  generalize sha s l = S at *
  generalize baS s = B at *
  generalize shf l = G at *
  subst hN
  rw [Int.toNat_natCast] at KEY kk
  obtain ⟨PP, q1⟩ : ∃ v, B * G = v := ⟨_, rfl⟩
  have j1 := w1.trans q1
  rw [q1] at q p0 p1
  clear w1 q1
  have q2 : PP.tdiv 10 = S := by rw [Int.tdiv_eq_ediv_of_nonneg p0]; exact q
  obtain ⟨b5, e5⟩ : ∃ b, ((N : Int) == 5) = b := ⟨_, rfl⟩
  obtain ⟨b4, e4⟩ : ∃ b, decide ((N : Int) < 5) = b := ⟨_, rfl⟩
  have key : (if (N : Int) ≤ 4 then (-S - T, -S) else if (N : Int) = 5 then (-(T / 2), T / 2) else (S, S + T)) = if b5 then (-(T / 2), T / 2) else if b4 then (-S - T, -S) else (S, S + T) := by
    subst e5 e4; by_cases h : (N : Int) ≤ 4
    · rw [if_pos h, show ((N : Int) == 5) = false from beq_eq_false_iff_ne.2 (by omega), decide_eq_true (by omega)]; rfl
    · rw [if_neg h]
      by_cases h5 : (N : Int) = 5
      · rw [if_pos h5, show ((N : Int) == 5) = true from beq_iff_eq.2 h5]; rfl
      · rw [if_neg h5, show ((N : Int) == 5) = false from beq_eq_false_iff_ne.2 h5, decide_eq_false (by omega)]; rfl
  rw [key]
  obtain ⟨D, hD⟩ : ∃ D : Int × Int, (if b5 then (-(T / 2), T / 2) else if b4 then (-S - T, -S) else (S, S + T)) = D := ⟨_, rfl⟩
  rw [hD]
  have HD := Lib.hid hD
  clear hD
  clear key q tb0 tb1 sb0 sb1 a b c d
  go_enter Tryz.func114, Tryz.ntmps114
  go_wp2_with fail
  ((with_reducible refine (HW.out _).mono ?_); rintro e w1 ⟨rfl, hb1⟩)
  have J := JN.later hb1
  clear JN hb1
  go_upto_region 2 with fail
  go_cut [8] (fun s8 wx => s8 = .int .i64 S ∧ OB w w.heap.size 0 0 wx)
  case first =>
    go_region_with (first | (go_at_call 165; (with_reducible refine (HB.out _).mono ?_); rintro e w' ⟨rfl, hb'⟩; (first | have K := KEY.out _ w' (fresh_later hb') | skip)))
    all_goals (go_wp2_with fail; go_meet)
    all_goals first | exact ⟨rfl, (J.drew.later hb').alloc _⟩ | exact ⟨rfl, (J.alloc _).drew.later hb'⟩
  case rest =>
    obtain ⟨rfl, J⟩ := hcut
    obtain ⟨k3, k4, k5, k6⟩ := J.rc
    have J5 := J.put (-(T / 2)) (T / 2)
    have J4 := J.put (-S - T) (-S)
    have J6 := J.put S (S + T)
    have hD := HD.out
    clear HD
    cases b5 <;> cases b4
    all_goals
      simp only [if_true, Bool.false_eq_true, if_false] at hD
      subst hD
      go_wp2
      first
      | (refine bodyPost_ret (results_cell_row rfl _ _ w.heap.size 25 _ _ _ (by kernel_rfl) J5.r Tryz.underlying25 rfl (by kernel_rfl)) rfl ?_; exact ⟨rfl, J5.w⟩)
      | (refine bodyPost_ret (results_cell_row rfl _ _ w.heap.size 25 _ _ _ (by kernel_rfl) J4.r Tryz.underlying25 rfl (by kernel_rfl)) rfl ?_; exact ⟨rfl, J4.w⟩)
      | (refine bodyPost_ret (results_cell_row rfl _ _ w.heap.size 25 _ _ _ (by kernel_rfl) J6.r Tryz.underlying25 rfl (by kernel_rfl)) rfl ?_; exact ⟨rfl, J6.w⟩)
end Go.Proofs.Wk
/- FITS: what the reference gives: deviations, limits, the check of a fit. -/
namespace Go.Proofs.Wk
open Go.RowKit

theorem szE_ok {s : Int} (s0 : 1 ≤ s) (s1 : s ≤ 100000) : szE s = 0 := by unfold szE; rw [if_neg (by omega)]
theorem ckE_ok {l g : Int} (l0 : 0 ≤ l) (l1 : l ≤ 9) (g0 : 5 ≤ g) (g1 : g ≤ 12) : ckE l g = 0 := by unfold ckE; rw [if_neg (by omega), if_neg (by omega)]
theorem rSize_ok (s : Int) (w : World) (s0 : 1 ≤ s) (s1 : s ≤ 100000) : Calls Tryz.prog 64 #[.int .i64 s] w (Ret w (.int .i64 0)) := by
  have := Size_c s w; rwa [szE_ok s0 s1] at this
theorem rCheck_ok (h : Bool) (l g : Int) (w : World) (l0 : 0 ≤ l) (l1 : l ≤ 9) (g0 : 5 ≤ g) (g1 : g ≤ 12) : Calls Tryz.prog 65 #[.agg #[.bool h, .int .i64 l, .int .i64 g]] w (Ret w (.int .i64 0)) := by
  have := rCheck_c h l g w; rwa [ckE_ok l0 l1 g0 g1] at this
set_option maxRecDepth 100000 in
set_option maxHeartbeats 1000000 in
theorem Away_c (h : Bool) (s l g : Int) (w : World) (l0 : 0 ≤ l) (l1 : l ≤ 9) (g0 : 5 ≤ g) (g1 : g ≤ 12) : Calls Tryz.prog 67 #[.int .i64 s, .agg #[.bool h, .int .i64 l, .int .i64 g]] w (Ret w (lim (devz h s l g))) := by
  have H := Lib.hid (fun W => shaft_c s l g W l0 l1 g0 g1)
  obtain ⟨tb0, tb1⟩ := tol_bd (s := s) g0 g1
  obtain ⟨sb0, sb1⟩ := sha_bd (s := s) l0 l1
  have hd3 := dev3_bd (l := l) (show 0 ≤ tol s g by omega) tb1 sb0 sb1
  unfold devz
  generalize dev3 l (tol s g) (sha s l) = D at *
  obtain ⟨D1, D2⟩ := D
  simp only at hd3
  obtain ⟨⟨x0, x1⟩, x2, x3⟩ := hd3
  have y1 : IntKind.i64.wrap (-D1) = -D1 := IntWalk.i64_in _ (by omega)
  have y2 : IntKind.i64.wrap (-D2) = -D2 := IntWalk.i64_in _ (by omega)
  have J := LW.new w 70 h l g
  clear l0 l1 g0 g1 tb0 tb1 sb0 sb1 x0 x1 x2 x3
  cases h
  all_goals
    go_enter Tryz.func67, Tryz.ntmps67
    go_wp2_with fail
    ((with_reducible refine (H.out _).mono ?_); rintro e w1 ⟨rfl, hb1⟩)
    have J1 := (J.later hb1).alloc (.cells #[.int .i64 D1, .int .i64 D2] 25)
    obtain ⟨c0, -, -⟩ := J1.cc
    obtain ⟨k3, k4, k5, k6⟩ := J1.rc
    have J4 := J1.put D1 D2
    have J5 := J1.put (-D2) (-D1)
    clear J J1 hb1
    go_wp2
    first
    | (refine bodyPost_ret (results_cell_row rfl _ _ (w.heap.size + 1) 25 _ _ _ (by kernel_rfl) J4.r Tryz.underlying25 rfl (by kernel_rfl)) rfl ?_; exact ⟨rfl, J4.w⟩)
    | (refine bodyPost_ret (results_cell_row rfl _ _ (w.heap.size + 1) 25 _ _ _ (by kernel_rfl) J5.r Tryz.underlying25 rfl (by kernel_rfl)) rfl ?_; exact ⟨rfl, J5.w⟩)
set_option maxRecDepth 100000 in
theorem rDeviations_ok (h : Bool) (s l g : Int) (w : World) (s0 : 1 ≤ s) (s1 : s ≤ 100000) (l0 : 0 ≤ l) (l1 : l ≤ 9) (g0 : 5 ≤ g) (g1 : g ≤ 12) :
    Calls Tryz.prog 113 #[.int .i64 s, .agg #[.bool h, .int .i64 l, .int .i64 g]] w (Ret w (.tuple #[lim (devz h s l g), .int .i64 0])) := by
  have H1 := Lib.hid (fun W => rSize_ok s W s0 s1)
  have H2 := Lib.hid (fun W => rCheck_ok h l g W l0 l1 g0 g1)
  have H3 := Lib.hid (fun W => Away_c h s l g W l0 l1 g0 g1)
  have J := LW.new w 70 h l g
  clear s0 s1 l0 l1 g0 g1
  generalize devz h s l g = D at *
  obtain ⟨D1, D2⟩ := D
  go_enter Tryz.func113, Tryz.ntmps113
  go_wp2_with fail
  ((with_reducible refine (H1.out _).mono ?_); rintro e w1 ⟨rfl, hb1⟩)
  have J1 := J.later hb1
  obtain ⟨c0, c1, c2⟩ := J1.cc
  go_wp2_with fail
  ((with_reducible refine (H2.out _).mono ?_); rintro e w2 ⟨rfl, hb2⟩)
  have J2 := J1.later hb2
  clear c0 c1 c2
  obtain ⟨c0, c1, c2⟩ := J2.cc
  go_wp2_with fail
  ((with_reducible refine (H3.out _).mono ?_); rintro e w3 ⟨rfl, hb3⟩)
  have J3 := J2.later hb3
  obtain ⟨k3, k4, k5, k6⟩ := J3.rc
  have J4 := J3.put D1 D2
  go_wp2
  refine bodyPost_ret (results_cell_row_tmp rfl _ _ (w.heap.size + 1) 25 _ _ _ (by kernel_rfl) J4.r Tryz.underlying25 rfl (by kernel_rfl)) rfl ?_
  exact ⟨rfl, J4.w⟩
/-- The limits of a size, and the number of the error. -/
def lmE (h : Bool) (s l g : Int) : Int := if s + (devz h s l g).1 < 1 ∨ 100000 < s + (devz h s l g).2 then 2 else 0
def lmL (h : Bool) (s l g : Int) : Int × Int := if s + (devz h s l g).1 < 1 ∨ 100000 < s + (devz h s l g).2 then (0, 0) else (s + (devz h s l g).1, s + (devz h s l g).2)
set_option maxRecDepth 100000 in
set_option maxHeartbeats 1000000 in
theorem rLimits_c (h : Bool) (s l g : Int) (w : World) (s0 : 1 ≤ s) (s1 : s ≤ 100000) (l0 : 0 ≤ l) (l1 : l ≤ 9) (g0 : 5 ≤ g) (g1 : g ≤ 12) :
    Calls Tryz.prog 66 #[.int .i64 s, .agg #[.bool h, .int .i64 l, .int .i64 g]] w (Ret w (.tuple #[lim (lmL h s l g), .int .i64 (lmE h s l g)])) := by
  have H1 := Lib.hid (fun W => rDeviations_ok h s l g W s0 s1 l0 l1 g0 g1)
  have J := LW.new w 70 h l g
  obtain ⟨⟨d0, d1⟩, d2, d3⟩ := devz_bd (s := s) h l0 l1 g0 g1
  have key : ∀ b1 b2 : Bool, decide (s + (devz h s l g).1 < 1) = b1 → decide (100000 < s + (devz h s l g).2) = b2 → lmE h s l g = (if b1 || b2 then 2 else 0) ∧ lmL h s l g = (if b1 || b2 then (0, 0) else (s + (devz h s l g).1, s + (devz h s l g).2)) := by
    rintro b1 b2 rfl rfl; unfold lmE lmL; simp
  generalize devz h s l g = D at *
  obtain ⟨D1, D2⟩ := D
  simp only at d0 d1 d2 d3 key
  have w1 : IntKind.i64.wrap (s + D1) = s + D1 := IntWalk.i64_in _ (by omega)
  have w2 : IntKind.i64.wrap (s + D2) = s + D2 := IntWalk.i64_in _ (by omega)
  obtain ⟨L, q1⟩ : ∃ v, s + D1 = v := ⟨_, rfl⟩
  obtain ⟨M, q2⟩ : ∃ v, s + D2 = v := ⟨_, rfl⟩
  have j1 := w1.trans q1
  have j2 := w2.trans q2
  rw [q1, q2] at key
  obtain ⟨b1, e1⟩ : ∃ b, decide (L < 1) = b := ⟨_, rfl⟩
  obtain ⟨b2, e2⟩ : ∃ b, decide (100000 < M) = b := ⟨_, rfl⟩
  obtain ⟨E1, E2⟩ := key b1 b2 e1 e2
  rw [E1, E2]
  clear key E1 E2 w1 w2 q1 q2 s0 s1 l0 l1 g0 g1 d0 d1 d2 d3
  cases b1 <;> cases b2
  all_goals
    simp only [Bool.or_true, Bool.or_false, if_true, Bool.false_eq_true, if_false]
    go_enter Tryz.func66, Tryz.ntmps66
    go_wp2_with fail
    ((with_reducible refine (H1.out _).mono ?_); rintro e w1 ⟨rfl, hb1⟩)
    have J1 := J.later hb1
    have J2 := J1.alloc (.cells #[.int .i64 L, .int .i64 M] 25)
    obtain ⟨k3, k4, k5, k6⟩ := J2.rc
    have J4 := J2.put L M
    have J5 := J2.put 0 0
    clear J J1 J2
    go_wp2
    first
    | (refine bodyPost_ret (results_cell_row_tmp rfl _ _ (w.heap.size + 1) 25 _ _ _ (by kernel_rfl) J4.r Tryz.underlying25 rfl (by kernel_rfl)) rfl ?_; exact ⟨rfl, J4.w⟩)
    | (refine bodyPost_ret (results_cell_row_tmp rfl _ _ (w.heap.size + 1) 25 _ _ _ (by kernel_rfl) J5.r Tryz.underlying25 rfl (by kernel_rfl)) rfl ?_; exact ⟨rfl, J5.w⟩)
/-- The number of the error of a fit. -/
def fitE (s gh l gs : Int) : Int := if szE s ≠ 0 then szE s else if ckE 4 gh ≠ 0 then ckE 4 gh else if ckE l gs ≠ 0 then ckE l gs else if lmE true s 4 gh ≠ 0 then lmE true s 4 gh else lmE false s l gs
theorem szE_in {s : Int} (h : szE s = 0) : 1 ≤ s ∧ s ≤ 100000 := by unfold szE at h; split at h <;> omega
theorem ckE_in {l g : Int} (h : ckE l g = 0) : (0 ≤ l ∧ l ≤ 9) ∧ 5 ≤ g ∧ g ≤ 12 := by
  unfold ckE at h; split at h
  · omega
  split at h <;> omega
theorem lmE_in {h : Bool} {s l g : Int} (e : lmE h s l g = 0) : 1 ≤ s + (devz h s l g).1 ∧ s + (devz h s l g).2 ≤ 100000 := by unfold lmE at e; split at e <;> omega
theorem fitE_ok {s gh l gs : Int} (h : fitE s gh l gs = 0) : FitOK s 4 gh l gs := by
  unfold fitE at h
  split at h
  · contradiction
  · split at h
    · contradiction
    · split at h
      · contradiction
      · split at h
        · contradiction
        · rename_i h1 h2 h3 h4
          obtain ⟨s0, s1⟩ := szE_in (Decidable.not_not.1 h1)
          obtain ⟨⟨a0, a1⟩, b0, b1⟩ := ckE_in (Decidable.not_not.1 h2)
          obtain ⟨⟨c0, c1⟩, d0, d1⟩ := ckE_in (Decidable.not_not.1 h3)
          obtain ⟨m0, m1⟩ := lmE_in (Decidable.not_not.1 h4)
          obtain ⟨n0, n1⟩ := lmE_in h
          exact ⟨s0, s1, a0, a1, b0, b1, c0, c1, d0, d1, m0, m1, n0, n1⟩
/-- A box, and what was there before. -/
structure BX (w0 : World) (b : Nat) (r1 : Array Value) (t1 : TypeId) (w : World) : Prop where
  c : w.heap[b]? = some (.cells r1 t1 (0, 0))
  w : Below w0.heap.size w0 w
theorem BX.later {w0 : World} {b : Nat} {r1 : Array Value} {t1 : TypeId} {w w' : World} (j : BX w0 b r1 t1 w) (hb : Below w.heap.size w w') : BX w0 b r1 t1 w' :=
  ⟨by rw [hb.block b (Array.getElem?_eq_some_iff.1 j.c).1]; exact j.c, j.w.trans (hb.mono j.w.size)⟩
theorem BX.alloc {w0 : World} {b : Nat} {r1 : Array Value} {t1 : TypeId} {w : World} (j : BX w0 b r1 t1 w) (o : Obj) : BX w0 b r1 t1 (w.alloc o) := j.later ((Below.refl _ _).alloc (Nat.le_refl _) o)
theorem BX.new (w0 : World) (r1 : Array Value) (t1 : TypeId) : BX w0 w0.heap.size r1 t1 (w0.alloc (.cells r1 t1)) := ⟨heap_alloc_new _ _, (Below.refl _ _).alloc (Nat.le_refl _) _⟩
set_option maxRecDepth 100000 in
set_option maxHeartbeats 2000000 in
theorem refCheck_c (s gh l gs : Int) (w : World) : Calls Tryz.prog 23 #[fitV s 4 gh l gs] w (Ret w (.int .i64 (fitE s gh l gs))) := by
  have JN := BX.new w #[.int .i64 s, .bool true, .int .i64 4, .int .i64 gh, .bool false, .int .i64 l, .int .i64 gs] 72
  have H1 := Lib.hid (fun W => Size_c s W)
  have H2 := Lib.hid (fun W => rCheck_c true 4 gh W)
  have H3 := Lib.hid (fun W => rCheck_c false l gs W)
  have H4 := Lib.hid (fun (W : World) (a : szE s = 0) (b : ckE 4 gh = 0) => rLimits_c true s 4 gh W (szE_in a).1 (szE_in a).2 (ckE_in b).1.1 (ckE_in b).1.2 (ckE_in b).2.1 (ckE_in b).2.2)
  have H5 := Lib.hid (fun (W : World) (a : szE s = 0) (b : ckE l gs = 0) => rLimits_c false s l gs W (szE_in a).1 (szE_in a).2 (ckE_in b).1.1 (ckE_in b).1.2 (ckE_in b).2.1 (ckE_in b).2.2)
  unfold fitE
  generalize szE s = e1 at *
  generalize ckE 4 gh = e2 at *
  generalize ckE l gs = e3 at *
  generalize lmE true s 4 gh = e4 at *
  generalize lmE false s l gs = e5 at *
  generalize lmL true s 4 gh = L1 at *
  generalize lmL false s l gs = L2 at *
  by_cases z1 : e1 = 0
  rotate_left
  · rw [if_pos z1]
    have y1 : (e1 != 0) = true := bne_iff_ne.2 z1
    clear z1
    go_enter Tryz.func23, Tryz.ntmps23
    go_wp2_with fail
    ((with_reducible refine (H1.out _).mono ?_); rintro e w1 ⟨rfl, hb1⟩)
    go_wp2
    go_ret
    exact ⟨rfl, (JN.later hb1).w⟩
  rw [if_neg (Decidable.not_not.2 z1)]
  have H4a := Lib.hid (fun W => H4.out W z1)
  have H5a := Lib.hid (fun W => H5.out W z1)
  clear H4 H5
  subst z1
  by_cases z2 : e2 = 0
  rotate_left
  · rw [if_pos z2]
    have y1 : (e2 != 0) = true := bne_iff_ne.2 z2
    clear z2
    go_enter Tryz.func23, Tryz.ntmps23
    go_wp2_with fail
    ((with_reducible refine (H1.out _).mono ?_); rintro e w1 ⟨rfl, hb1⟩)
    have J1 := JN.later hb1
    have c0 : w1.cell? ⟨w.heap.size, 0, none⟩ = some (.int .i64 s) := by rw [cell_of_row _ _ _ _ _ _ J1.c]; rfl
    have c1 : w1.cell? ⟨w.heap.size, 1, none⟩ = some (.bool true) := by rw [cell_of_row _ _ _ _ _ _ J1.c]; rfl
    have c2 : w1.cell? ⟨w.heap.size, 2, none⟩ = some (.int .i64 4) := by rw [cell_of_row _ _ _ _ _ _ J1.c]; rfl
    have c3 : w1.cell? ⟨w.heap.size, 3, none⟩ = some (.int .i64 gh) := by rw [cell_of_row _ _ _ _ _ _ J1.c]; rfl
    have c4 : w1.cell? ⟨w.heap.size, 4, none⟩ = some (.bool false) := by rw [cell_of_row _ _ _ _ _ _ J1.c]; rfl
    have c5 : w1.cell? ⟨w.heap.size, 5, none⟩ = some (.int .i64 l) := by rw [cell_of_row _ _ _ _ _ _ J1.c]; rfl
    have c6 : w1.cell? ⟨w.heap.size, 6, none⟩ = some (.int .i64 gs) := by rw [cell_of_row _ _ _ _ _ _ J1.c]; rfl
    go_wp2_with fail
    ((with_reducible refine (H2.out _).mono ?_); rintro e w2 ⟨rfl, hb2⟩)
    have J2 := J1.later hb2
    clear c0 c1 c2 c3 c4 c5 c6
    have c0 : w2.cell? ⟨w.heap.size, 0, none⟩ = some (.int .i64 s) := by rw [cell_of_row _ _ _ _ _ _ J2.c]; rfl
    have c1 : w2.cell? ⟨w.heap.size, 1, none⟩ = some (.bool true) := by rw [cell_of_row _ _ _ _ _ _ J2.c]; rfl
    have c2 : w2.cell? ⟨w.heap.size, 2, none⟩ = some (.int .i64 4) := by rw [cell_of_row _ _ _ _ _ _ J2.c]; rfl
    have c3 : w2.cell? ⟨w.heap.size, 3, none⟩ = some (.int .i64 gh) := by rw [cell_of_row _ _ _ _ _ _ J2.c]; rfl
    have c4 : w2.cell? ⟨w.heap.size, 4, none⟩ = some (.bool false) := by rw [cell_of_row _ _ _ _ _ _ J2.c]; rfl
    have c5 : w2.cell? ⟨w.heap.size, 5, none⟩ = some (.int .i64 l) := by rw [cell_of_row _ _ _ _ _ _ J2.c]; rfl
    have c6 : w2.cell? ⟨w.heap.size, 6, none⟩ = some (.int .i64 gs) := by rw [cell_of_row _ _ _ _ _ _ J2.c]; rfl
    go_wp2
    go_ret
    exact ⟨rfl, J2.w⟩
  rw [if_neg (Decidable.not_not.2 z2)]
  have H4b := Lib.hid (fun W => H4a.out W z2)
  clear H4a
  subst z2
  by_cases z3 : e3 = 0
  rotate_left
  · rw [if_pos z3]
    have y1 : (e3 != 0) = true := bne_iff_ne.2 z3
    clear z3
    go_enter Tryz.func23, Tryz.ntmps23
    go_wp2_with fail
    ((with_reducible refine (H1.out _).mono ?_); rintro e w1 ⟨rfl, hb1⟩)
    have J1 := JN.later hb1
    have c0 : w1.cell? ⟨w.heap.size, 0, none⟩ = some (.int .i64 s) := by rw [cell_of_row _ _ _ _ _ _ J1.c]; rfl
    have c1 : w1.cell? ⟨w.heap.size, 1, none⟩ = some (.bool true) := by rw [cell_of_row _ _ _ _ _ _ J1.c]; rfl
    have c2 : w1.cell? ⟨w.heap.size, 2, none⟩ = some (.int .i64 4) := by rw [cell_of_row _ _ _ _ _ _ J1.c]; rfl
    have c3 : w1.cell? ⟨w.heap.size, 3, none⟩ = some (.int .i64 gh) := by rw [cell_of_row _ _ _ _ _ _ J1.c]; rfl
    have c4 : w1.cell? ⟨w.heap.size, 4, none⟩ = some (.bool false) := by rw [cell_of_row _ _ _ _ _ _ J1.c]; rfl
    have c5 : w1.cell? ⟨w.heap.size, 5, none⟩ = some (.int .i64 l) := by rw [cell_of_row _ _ _ _ _ _ J1.c]; rfl
    have c6 : w1.cell? ⟨w.heap.size, 6, none⟩ = some (.int .i64 gs) := by rw [cell_of_row _ _ _ _ _ _ J1.c]; rfl
    go_wp2_with fail
    ((with_reducible refine (H2.out _).mono ?_); rintro e w2 ⟨rfl, hb2⟩)
    have J2 := J1.later hb2
    clear c0 c1 c2 c3 c4 c5 c6
    have c0 : w2.cell? ⟨w.heap.size, 0, none⟩ = some (.int .i64 s) := by rw [cell_of_row _ _ _ _ _ _ J2.c]; rfl
    have c1 : w2.cell? ⟨w.heap.size, 1, none⟩ = some (.bool true) := by rw [cell_of_row _ _ _ _ _ _ J2.c]; rfl
    have c2 : w2.cell? ⟨w.heap.size, 2, none⟩ = some (.int .i64 4) := by rw [cell_of_row _ _ _ _ _ _ J2.c]; rfl
    have c3 : w2.cell? ⟨w.heap.size, 3, none⟩ = some (.int .i64 gh) := by rw [cell_of_row _ _ _ _ _ _ J2.c]; rfl
    have c4 : w2.cell? ⟨w.heap.size, 4, none⟩ = some (.bool false) := by rw [cell_of_row _ _ _ _ _ _ J2.c]; rfl
    have c5 : w2.cell? ⟨w.heap.size, 5, none⟩ = some (.int .i64 l) := by rw [cell_of_row _ _ _ _ _ _ J2.c]; rfl
    have c6 : w2.cell? ⟨w.heap.size, 6, none⟩ = some (.int .i64 gs) := by rw [cell_of_row _ _ _ _ _ _ J2.c]; rfl
    go_wp2_with fail
    ((with_reducible refine (H3.out _).mono ?_); rintro e w3 ⟨rfl, hb3⟩)
    have J3 := J2.later hb3
    clear c0 c1 c2 c3 c4 c5 c6
    have c0 : w3.cell? ⟨w.heap.size, 0, none⟩ = some (.int .i64 s) := by rw [cell_of_row _ _ _ _ _ _ J3.c]; rfl
    have c1 : w3.cell? ⟨w.heap.size, 1, none⟩ = some (.bool true) := by rw [cell_of_row _ _ _ _ _ _ J3.c]; rfl
    have c2 : w3.cell? ⟨w.heap.size, 2, none⟩ = some (.int .i64 4) := by rw [cell_of_row _ _ _ _ _ _ J3.c]; rfl
    have c3 : w3.cell? ⟨w.heap.size, 3, none⟩ = some (.int .i64 gh) := by rw [cell_of_row _ _ _ _ _ _ J3.c]; rfl
    have c4 : w3.cell? ⟨w.heap.size, 4, none⟩ = some (.bool false) := by rw [cell_of_row _ _ _ _ _ _ J3.c]; rfl
    have c5 : w3.cell? ⟨w.heap.size, 5, none⟩ = some (.int .i64 l) := by rw [cell_of_row _ _ _ _ _ _ J3.c]; rfl
    have c6 : w3.cell? ⟨w.heap.size, 6, none⟩ = some (.int .i64 gs) := by rw [cell_of_row _ _ _ _ _ _ J3.c]; rfl
    go_wp2
    go_ret
    exact ⟨rfl, J3.w⟩
  rw [if_neg (Decidable.not_not.2 z3)]
  have H5b := Lib.hid (fun W => H5a.out W z3)
  clear H5a
  subst z3
  by_cases z4 : e4 = 0
  rotate_left
  · rw [if_pos z4]
    have y1 : (e4 != 0) = true := bne_iff_ne.2 z4
    clear z4
    go_enter Tryz.func23, Tryz.ntmps23
    go_wp2_with fail
    ((with_reducible refine (H1.out _).mono ?_); rintro e w1 ⟨rfl, hb1⟩)
    have J1 := JN.later hb1
    have c0 : w1.cell? ⟨w.heap.size, 0, none⟩ = some (.int .i64 s) := by rw [cell_of_row _ _ _ _ _ _ J1.c]; rfl
    have c1 : w1.cell? ⟨w.heap.size, 1, none⟩ = some (.bool true) := by rw [cell_of_row _ _ _ _ _ _ J1.c]; rfl
    have c2 : w1.cell? ⟨w.heap.size, 2, none⟩ = some (.int .i64 4) := by rw [cell_of_row _ _ _ _ _ _ J1.c]; rfl
    have c3 : w1.cell? ⟨w.heap.size, 3, none⟩ = some (.int .i64 gh) := by rw [cell_of_row _ _ _ _ _ _ J1.c]; rfl
    have c4 : w1.cell? ⟨w.heap.size, 4, none⟩ = some (.bool false) := by rw [cell_of_row _ _ _ _ _ _ J1.c]; rfl
    have c5 : w1.cell? ⟨w.heap.size, 5, none⟩ = some (.int .i64 l) := by rw [cell_of_row _ _ _ _ _ _ J1.c]; rfl
    have c6 : w1.cell? ⟨w.heap.size, 6, none⟩ = some (.int .i64 gs) := by rw [cell_of_row _ _ _ _ _ _ J1.c]; rfl
    go_wp2_with fail
    ((with_reducible refine (H2.out _).mono ?_); rintro e w2 ⟨rfl, hb2⟩)
    have J2 := J1.later hb2
    clear c0 c1 c2 c3 c4 c5 c6
    have c0 : w2.cell? ⟨w.heap.size, 0, none⟩ = some (.int .i64 s) := by rw [cell_of_row _ _ _ _ _ _ J2.c]; rfl
    have c1 : w2.cell? ⟨w.heap.size, 1, none⟩ = some (.bool true) := by rw [cell_of_row _ _ _ _ _ _ J2.c]; rfl
    have c2 : w2.cell? ⟨w.heap.size, 2, none⟩ = some (.int .i64 4) := by rw [cell_of_row _ _ _ _ _ _ J2.c]; rfl
    have c3 : w2.cell? ⟨w.heap.size, 3, none⟩ = some (.int .i64 gh) := by rw [cell_of_row _ _ _ _ _ _ J2.c]; rfl
    have c4 : w2.cell? ⟨w.heap.size, 4, none⟩ = some (.bool false) := by rw [cell_of_row _ _ _ _ _ _ J2.c]; rfl
    have c5 : w2.cell? ⟨w.heap.size, 5, none⟩ = some (.int .i64 l) := by rw [cell_of_row _ _ _ _ _ _ J2.c]; rfl
    have c6 : w2.cell? ⟨w.heap.size, 6, none⟩ = some (.int .i64 gs) := by rw [cell_of_row _ _ _ _ _ _ J2.c]; rfl
    go_wp2_with fail
    ((with_reducible refine (H3.out _).mono ?_); rintro e w3 ⟨rfl, hb3⟩)
    have J3 := J2.later hb3
    clear c0 c1 c2 c3 c4 c5 c6
    have c0 : w3.cell? ⟨w.heap.size, 0, none⟩ = some (.int .i64 s) := by rw [cell_of_row _ _ _ _ _ _ J3.c]; rfl
    have c1 : w3.cell? ⟨w.heap.size, 1, none⟩ = some (.bool true) := by rw [cell_of_row _ _ _ _ _ _ J3.c]; rfl
    have c2 : w3.cell? ⟨w.heap.size, 2, none⟩ = some (.int .i64 4) := by rw [cell_of_row _ _ _ _ _ _ J3.c]; rfl
    have c3 : w3.cell? ⟨w.heap.size, 3, none⟩ = some (.int .i64 gh) := by rw [cell_of_row _ _ _ _ _ _ J3.c]; rfl
    have c4 : w3.cell? ⟨w.heap.size, 4, none⟩ = some (.bool false) := by rw [cell_of_row _ _ _ _ _ _ J3.c]; rfl
    have c5 : w3.cell? ⟨w.heap.size, 5, none⟩ = some (.int .i64 l) := by rw [cell_of_row _ _ _ _ _ _ J3.c]; rfl
    have c6 : w3.cell? ⟨w.heap.size, 6, none⟩ = some (.int .i64 gs) := by rw [cell_of_row _ _ _ _ _ _ J3.c]; rfl
    go_wp2_with fail
    ((with_reducible refine (H4b.out _).mono ?_); rintro e w4 ⟨rfl, hb4⟩)
    have J4 := (J3.later hb4).alloc (.cells #[.int .i64 L1.1, .int .i64 L1.2] 25)
    clear c0 c1 c2 c3 c4 c5 c6
    have c0 : (w4.alloc (.cells #[.int .i64 L1.1, .int .i64 L1.2] 25)).cell? ⟨w.heap.size, 0, none⟩ = some (.int .i64 s) := by rw [cell_of_row _ _ _ _ _ _ J4.c]; rfl
    have c1 : (w4.alloc (.cells #[.int .i64 L1.1, .int .i64 L1.2] 25)).cell? ⟨w.heap.size, 1, none⟩ = some (.bool true) := by rw [cell_of_row _ _ _ _ _ _ J4.c]; rfl
    have c2 : (w4.alloc (.cells #[.int .i64 L1.1, .int .i64 L1.2] 25)).cell? ⟨w.heap.size, 2, none⟩ = some (.int .i64 4) := by rw [cell_of_row _ _ _ _ _ _ J4.c]; rfl
    have c3 : (w4.alloc (.cells #[.int .i64 L1.1, .int .i64 L1.2] 25)).cell? ⟨w.heap.size, 3, none⟩ = some (.int .i64 gh) := by rw [cell_of_row _ _ _ _ _ _ J4.c]; rfl
    have c4 : (w4.alloc (.cells #[.int .i64 L1.1, .int .i64 L1.2] 25)).cell? ⟨w.heap.size, 4, none⟩ = some (.bool false) := by rw [cell_of_row _ _ _ _ _ _ J4.c]; rfl
    have c5 : (w4.alloc (.cells #[.int .i64 L1.1, .int .i64 L1.2] 25)).cell? ⟨w.heap.size, 5, none⟩ = some (.int .i64 l) := by rw [cell_of_row _ _ _ _ _ _ J4.c]; rfl
    have c6 : (w4.alloc (.cells #[.int .i64 L1.1, .int .i64 L1.2] 25)).cell? ⟨w.heap.size, 6, none⟩ = some (.int .i64 gs) := by rw [cell_of_row _ _ _ _ _ _ J4.c]; rfl
    go_wp2
    go_ret
    exact ⟨rfl, J4.w⟩
  rw [if_neg (Decidable.not_not.2 z4)]
  subst z4
  go_enter Tryz.func23, Tryz.ntmps23
  go_wp2_with fail
  ((with_reducible refine (H1.out _).mono ?_); rintro e w1 ⟨rfl, hb1⟩)
  have J1 := JN.later hb1
  have c0 : w1.cell? ⟨w.heap.size, 0, none⟩ = some (.int .i64 s) := by rw [cell_of_row _ _ _ _ _ _ J1.c]; rfl
  have c1 : w1.cell? ⟨w.heap.size, 1, none⟩ = some (.bool true) := by rw [cell_of_row _ _ _ _ _ _ J1.c]; rfl
  have c2 : w1.cell? ⟨w.heap.size, 2, none⟩ = some (.int .i64 4) := by rw [cell_of_row _ _ _ _ _ _ J1.c]; rfl
  have c3 : w1.cell? ⟨w.heap.size, 3, none⟩ = some (.int .i64 gh) := by rw [cell_of_row _ _ _ _ _ _ J1.c]; rfl
  have c4 : w1.cell? ⟨w.heap.size, 4, none⟩ = some (.bool false) := by rw [cell_of_row _ _ _ _ _ _ J1.c]; rfl
  have c5 : w1.cell? ⟨w.heap.size, 5, none⟩ = some (.int .i64 l) := by rw [cell_of_row _ _ _ _ _ _ J1.c]; rfl
  have c6 : w1.cell? ⟨w.heap.size, 6, none⟩ = some (.int .i64 gs) := by rw [cell_of_row _ _ _ _ _ _ J1.c]; rfl
  go_wp2_with fail
  ((with_reducible refine (H2.out _).mono ?_); rintro e w2 ⟨rfl, hb2⟩)
  have J2 := J1.later hb2
  clear c0 c1 c2 c3 c4 c5 c6
  have c0 : w2.cell? ⟨w.heap.size, 0, none⟩ = some (.int .i64 s) := by rw [cell_of_row _ _ _ _ _ _ J2.c]; rfl
  have c1 : w2.cell? ⟨w.heap.size, 1, none⟩ = some (.bool true) := by rw [cell_of_row _ _ _ _ _ _ J2.c]; rfl
  have c2 : w2.cell? ⟨w.heap.size, 2, none⟩ = some (.int .i64 4) := by rw [cell_of_row _ _ _ _ _ _ J2.c]; rfl
  have c3 : w2.cell? ⟨w.heap.size, 3, none⟩ = some (.int .i64 gh) := by rw [cell_of_row _ _ _ _ _ _ J2.c]; rfl
  have c4 : w2.cell? ⟨w.heap.size, 4, none⟩ = some (.bool false) := by rw [cell_of_row _ _ _ _ _ _ J2.c]; rfl
  have c5 : w2.cell? ⟨w.heap.size, 5, none⟩ = some (.int .i64 l) := by rw [cell_of_row _ _ _ _ _ _ J2.c]; rfl
  have c6 : w2.cell? ⟨w.heap.size, 6, none⟩ = some (.int .i64 gs) := by rw [cell_of_row _ _ _ _ _ _ J2.c]; rfl
  go_wp2_with fail
  ((with_reducible refine (H3.out _).mono ?_); rintro e w3 ⟨rfl, hb3⟩)
  have J3 := J2.later hb3
  clear c0 c1 c2 c3 c4 c5 c6
  have c0 : w3.cell? ⟨w.heap.size, 0, none⟩ = some (.int .i64 s) := by rw [cell_of_row _ _ _ _ _ _ J3.c]; rfl
  have c1 : w3.cell? ⟨w.heap.size, 1, none⟩ = some (.bool true) := by rw [cell_of_row _ _ _ _ _ _ J3.c]; rfl
  have c2 : w3.cell? ⟨w.heap.size, 2, none⟩ = some (.int .i64 4) := by rw [cell_of_row _ _ _ _ _ _ J3.c]; rfl
  have c3 : w3.cell? ⟨w.heap.size, 3, none⟩ = some (.int .i64 gh) := by rw [cell_of_row _ _ _ _ _ _ J3.c]; rfl
  have c4 : w3.cell? ⟨w.heap.size, 4, none⟩ = some (.bool false) := by rw [cell_of_row _ _ _ _ _ _ J3.c]; rfl
  have c5 : w3.cell? ⟨w.heap.size, 5, none⟩ = some (.int .i64 l) := by rw [cell_of_row _ _ _ _ _ _ J3.c]; rfl
  have c6 : w3.cell? ⟨w.heap.size, 6, none⟩ = some (.int .i64 gs) := by rw [cell_of_row _ _ _ _ _ _ J3.c]; rfl
  go_wp2_with fail
  ((with_reducible refine (H4b.out _).mono ?_); rintro e w4 ⟨rfl, hb4⟩)
  have J4 := (J3.later hb4).alloc (.cells #[.int .i64 L1.1, .int .i64 L1.2] 25)
  clear c0 c1 c2 c3 c4 c5 c6
  have c0 : (w4.alloc (.cells #[.int .i64 L1.1, .int .i64 L1.2] 25)).cell? ⟨w.heap.size, 0, none⟩ = some (.int .i64 s) := by rw [cell_of_row _ _ _ _ _ _ J4.c]; rfl
  have c1 : (w4.alloc (.cells #[.int .i64 L1.1, .int .i64 L1.2] 25)).cell? ⟨w.heap.size, 1, none⟩ = some (.bool true) := by rw [cell_of_row _ _ _ _ _ _ J4.c]; rfl
  have c2 : (w4.alloc (.cells #[.int .i64 L1.1, .int .i64 L1.2] 25)).cell? ⟨w.heap.size, 2, none⟩ = some (.int .i64 4) := by rw [cell_of_row _ _ _ _ _ _ J4.c]; rfl
  have c3 : (w4.alloc (.cells #[.int .i64 L1.1, .int .i64 L1.2] 25)).cell? ⟨w.heap.size, 3, none⟩ = some (.int .i64 gh) := by rw [cell_of_row _ _ _ _ _ _ J4.c]; rfl
  have c4 : (w4.alloc (.cells #[.int .i64 L1.1, .int .i64 L1.2] 25)).cell? ⟨w.heap.size, 4, none⟩ = some (.bool false) := by rw [cell_of_row _ _ _ _ _ _ J4.c]; rfl
  have c5 : (w4.alloc (.cells #[.int .i64 L1.1, .int .i64 L1.2] 25)).cell? ⟨w.heap.size, 5, none⟩ = some (.int .i64 l) := by rw [cell_of_row _ _ _ _ _ _ J4.c]; rfl
  have c6 : (w4.alloc (.cells #[.int .i64 L1.1, .int .i64 L1.2] 25)).cell? ⟨w.heap.size, 6, none⟩ = some (.int .i64 gs) := by rw [cell_of_row _ _ _ _ _ _ J4.c]; rfl
  go_wp2_with fail
  ((with_reducible refine (H5b.out _).mono ?_); rintro e w5 ⟨rfl, hb5⟩)
  have J5 := (J4.later hb5).alloc (.cells #[.int .i64 L2.1, .int .i64 L2.2] 25)
  clear c0 c1 c2 c3 c4 c5 c6
  have c0 : (w5.alloc (.cells #[.int .i64 L2.1, .int .i64 L2.2] 25)).cell? ⟨w.heap.size, 0, none⟩ = some (.int .i64 s) := by rw [cell_of_row _ _ _ _ _ _ J5.c]; rfl
  have c1 : (w5.alloc (.cells #[.int .i64 L2.1, .int .i64 L2.2] 25)).cell? ⟨w.heap.size, 1, none⟩ = some (.bool true) := by rw [cell_of_row _ _ _ _ _ _ J5.c]; rfl
  have c2 : (w5.alloc (.cells #[.int .i64 L2.1, .int .i64 L2.2] 25)).cell? ⟨w.heap.size, 2, none⟩ = some (.int .i64 4) := by rw [cell_of_row _ _ _ _ _ _ J5.c]; rfl
  have c3 : (w5.alloc (.cells #[.int .i64 L2.1, .int .i64 L2.2] 25)).cell? ⟨w.heap.size, 3, none⟩ = some (.int .i64 gh) := by rw [cell_of_row _ _ _ _ _ _ J5.c]; rfl
  have c4 : (w5.alloc (.cells #[.int .i64 L2.1, .int .i64 L2.2] 25)).cell? ⟨w.heap.size, 4, none⟩ = some (.bool false) := by rw [cell_of_row _ _ _ _ _ _ J5.c]; rfl
  have c5 : (w5.alloc (.cells #[.int .i64 L2.1, .int .i64 L2.2] 25)).cell? ⟨w.heap.size, 5, none⟩ = some (.int .i64 l) := by rw [cell_of_row _ _ _ _ _ _ J5.c]; rfl
  have c6 : (w5.alloc (.cells #[.int .i64 L2.1, .int .i64 L2.2] 25)).cell? ⟨w.heap.size, 6, none⟩ = some (.int .i64 gs) := by rw [cell_of_row _ _ _ _ _ _ J5.c]; rfl
  go_wp2
  go_ret
  exact ⟨rfl, J5.w⟩
end Go.Proofs.Wk
/- FITS IN THE REFERENCE: checks of any fit, both limits. -/
namespace Go.Proofs.Wk
open Go.RowKit Mt Po

theorem res_cc {P : Program} {fn : Func} {p q : Tmp} {ty tz : TypeId} {tmps : Array Value} {w : World} {g k : Nat} {T U : TypeId} {cs ds : Array Value} {fr fq : Nat × Nat} {d e : TypeDesc} (h : fn.results = #[.cell p ty, .cell q tz])
    (hp : tmps.getD p undef = .pointer (some ⟨g, 0, none⟩)) (hg : w.heap[g]? = some (.cells cs T fr)) (hu : P.underlying ty = some d) (hd : (match d with | .struct _ | .array _ _ => true | _ => false) = true) (hi : (P.info? ty).map (·.size) = some cs.size)
    (hq : tmps.getD q undef = .pointer (some ⟨k, 0, none⟩)) (hk : w.heap[k]? = some (.cells ds U fq)) (hv : P.underlying tz = some e) (he : (match e with | .struct _ | .array _ _ => true | _ => false) = true) (hj : (P.info? tz).map (·.size) = some ds.size) :
    (results fn tmps).run P w = .ok (.tuple #[.agg cs, .agg ds]) w := by
  rw [Array.getD_eq_getD_getElem?] at hp hq
  simp [results, h, hp, hq, asAddr, Result.andThen, run_loadVar_row w g T ty cs fr d hg hu hd hi, run_loadVar_row w k U tz ds fq e hk hv he hj]
set_option maxRecDepth 100000 in
set_option maxHeartbeats 4000000 in
theorem refCheckG_c (s l g l2 g2 : Int) (b b2 : Bool) (w : World) : Calls Tryz.prog 23 #[.agg #[.int .i64 s, .bool b, .int .i64 l, .int .i64 g, .bool b2, .int .i64 l2, .int .i64 g2]] w (fun e w' => ∃ E : Int, e = .returned (.int .i64 E) ∧ (E = 0 → b = true ∧ b2 = false ∧ FitOK s l g l2 g2) ∧ Below w.heap.size w w') := by
  have H1 := Lib.hid (fun W => Size_c s W)
  have H2 := Lib.hid (fun W => rCheck_c b l g W)
  have H3 := Lib.hid (fun W => rCheck_c b2 l2 g2 W)
  have H4 := Lib.hid (fun (W : World) (a : szE s = 0) (c : ckE l g = 0) => rLimits_c true s l g W (szE_in a).1 (szE_in a).2 (ckE_in c).1.1 (ckE_in c).1.2 (ckE_in c).2.1 (ckE_in c).2.2)
  have H5 := Lib.hid (fun (W : World) (a : szE s = 0) (c : ckE l2 g2 = 0) => rLimits_c false s l2 g2 W (szE_in a).1 (szE_in a).2 (ckE_in c).1.1 (ckE_in c).1.2 (ckE_in c).2.1 (ckE_in c).2.2)
  have HOK : Hid (szE s = 0 → ckE l g = 0 → ckE l2 g2 = 0 → lmE true s l g = 0 → lmE false s l2 g2 = 0 → FitOK s l g l2 g2) := Lib.hid (fun h1 h2 h3 h4 h5 => by
    obtain ⟨s0, s1⟩ := szE_in h1
    obtain ⟨⟨a0, a1⟩, b0, b1⟩ := ckE_in h2
    obtain ⟨⟨c0, c1⟩, d0, d1⟩ := ckE_in h3
    obtain ⟨m0, m1⟩ := lmE_in h4
    obtain ⟨n0, n1⟩ := lmE_in h5
    exact ⟨s0, s1, a0, a1, b0, b1, c0, c1, d0, d1, m0, m1, n0, n1⟩)
  obtain ⟨OK, hOK⟩ : ∃ P : Prop, FitOK s l g l2 g2 = P := ⟨_, rfl⟩
  rw [hOK] at HOK ⊢
  clear hOK
  generalize szE s = e1 at *
  generalize ckE l g = e2 at *
  generalize ckE l2 g2 = e3 at *
  generalize lmE true s l g = e4 at *
  generalize lmE false s l2 g2 = e5 at *
  generalize lmL true s l g = L1 at *
  generalize lmL false s l2 g2 = L2 at *
  have B0 := Lib.hid (below_al w (.cells #[.int .i64 s, .bool b, .int .i64 l, .int .i64 g, .bool b2, .int .i64 l2, .int .i64 g2] 72))
  have R0 := Lib.hid (heap_alloc_new w (.cells #[.int .i64 s, .bool b, .int .i64 l, .int .i64 g, .bool b2, .int .i64 l2, .int .i64 g2] 72))
  go_enter Tryz.func23, Tryz.ntmps23
  go_wp2_with fail
  ((with_reducible refine (H1.out _).mono ?_); rintro e w1 ⟨rfl, hb1⟩)
  have R1 := Lib.hid (keepD R0.out hb1)
  have B1 := Lib.hid (B0.out.nx hb1)
  obtain ⟨c0, c1, c2, c3, c4, c5, c6⟩ := c7row R1.out
  clear hb1 R0 B0
  by_cases z1 : e1 = 0
  rotate_left
  · have Z := Lib.hid z1
    have y1 : (e1 != 0) = true := bne_iff_ne.2 z1
    have hw := B1.out
    clear z1
    go_wp2
    go_ret
    exact ⟨_, rfl, fun h => absurd h Z.out, hw⟩
  have H4a := Lib.hid (fun W => H4.out W z1)
  have H5a := Lib.hid (fun W => H5.out W z1)
  have HOKa := Lib.hid (HOK.out z1)
  clear H4 H5 HOK H1
  subst z1
  go_wp2_with fail
  ((with_reducible refine (H2.out _).mono ?_); rintro e w2 ⟨rfl, hb2⟩)
  clear c0 c1 c2 c3 c4 c5 c6
  have R2 := Lib.hid (keepD R1.out hb2)
  have B2 := Lib.hid (B1.out.nx hb2)
  obtain ⟨c0, c1, c2, c3, c4, c5, c6⟩ := c7row R2.out
  clear hb2 R1 B1
  by_cases z2 : e2 = 0
  rotate_left
  · have Z := Lib.hid z2
    have y1 : (e2 != 0) = true := bne_iff_ne.2 z2
    have hw := B2.out
    clear z2
    go_wp2
    go_ret
    exact ⟨_, rfl, fun h => absurd h Z.out, hw⟩
  have H4b := Lib.hid (fun W => H4a.out W z2)
  have HOKb := Lib.hid (HOKa.out z2)
  clear H4a HOKa H2
  subst z2
  go_wp2_with fail
  ((with_reducible refine (H3.out _).mono ?_); rintro e w3 ⟨rfl, hb3⟩)
  clear c0 c1 c2 c3 c4 c5 c6
  have R3 := Lib.hid (keepD R2.out hb3)
  have B3 := Lib.hid (B2.out.nx hb3)
  obtain ⟨c0, c1, c2, c3, c4, c5, c6⟩ := c7row R3.out
  clear hb3 R2 B2
  by_cases z3 : e3 = 0
  rotate_left
  · have Z := Lib.hid z3
    have y1 : (e3 != 0) = true := bne_iff_ne.2 z3
    have hw := B3.out
    clear z3
    go_wp2
    go_ret
    exact ⟨_, rfl, fun h => absurd h Z.out, hw⟩
  have H5b := Lib.hid (fun W => H5a.out W z3)
  have HOKc := Lib.hid (HOKb.out z3)
  clear H5a HOKb H3
  subst z3
  have hw := B3.out
  cases b with
  | false =>
    go_wp2
    go_ret
    exact ⟨_, rfl, fun h => absurd h (by decide), hw⟩
  | true =>
  cases b2 with
  | true =>
    go_wp2
    go_ret
    exact ⟨_, rfl, fun h => absurd h (by decide), hw⟩
  | false =>
  clear hw
  go_wp2_with fail
  ((with_reducible refine (H4b.out _).mono ?_); rintro e w4 ⟨rfl, hb⟩)
  have hb4 := hb.nx (below_al w4 (.cells #[.int .i64 L1.1, .int .i64 L1.2] 25))
  clear c0 c1 c2 c3 c4 c5 c6 hb
  have R4 := Lib.hid (keepD R3.out hb4)
  have B4 := Lib.hid (B3.out.nx hb4)
  obtain ⟨c0, c1, c2, c3, c4, c5, c6⟩ := c7row R4.out
  clear hb4 R3 B3
  by_cases z4 : e4 = 0
  rotate_left
  · have Z := Lib.hid z4
    have y1 : (e4 != 0) = true := bne_iff_ne.2 z4
    have hw := B4.out
    clear z4
    go_wp2
    go_ret
    exact ⟨_, rfl, fun h => absurd h Z.out, hw⟩
  have HOKd := Lib.hid (HOKc.out z4)
  clear HOKc H4b
  subst z4
  go_wp2_with fail
  ((with_reducible refine (H5b.out _).mono ?_); rintro e w5 ⟨rfl, hb5⟩)
  have hw := (B4.out.nx hb5).nx (below_al w5 (.cells #[.int .i64 L2.1, .int .i64 L2.2] 25))
  clear c0 c1 c2 c3 c4 c5 c6 hb5 B4 R4
  go_wp2
  go_ret
  refine ⟨_, rfl, fun h => ?_, hw⟩
  first | exact HOKd.out h | exact ⟨rfl, rfl, HOKd.out h⟩
end Go.Proofs.Wk
/- FITS IN THE REFERENCE: both limits. -/
namespace Go.Proofs.Wk
open Go.RowKit Mt Po

theorem _root_.Go.RowKit.Below.al {w W : World} (h : Below w.heap.size w W) (o : Obj) : Below w.heap.size w (W.alloc o) := h.alloc h.size o
theorem box3 (w : World) (o1 o2 o3 : Array Value) (t1 t2 t3 : TypeId) : (((w.alloc (.cells o1 t1)).alloc (.cells o2 t2)).alloc (.cells o3 t3)).heap[w.heap.size]? = some (.cells o1 t1 (0, 0)) ∧ (((w.alloc (.cells o1 t1)).alloc (.cells o2 t2)).alloc (.cells o3 t3)).heap[w.heap.size + 1]? = some (.cells o2 t2 (0, 0)) ∧
    (((w.alloc (.cells o1 t1)).alloc (.cells o2 t2)).alloc (.cells o3 t3)).heap[w.heap.size + 1 + 1]? = some (.cells o3 t3 (0, 0)) ∧ Below w.heap.size w (((w.alloc (.cells o1 t1)).alloc (.cells o2 t2)).alloc (.cells o3 t3)) :=
  ⟨keepD (heap_alloc_new w _) (bxx _ _ _), keepD (nww w _ o2 t2) (below_al _ _), by
    have h := heap_alloc_new ((w.alloc (.cells o1 t1)).alloc (.cells o2 t2)) (.cells o3 t3)
    rwa [World.size_alloc, World.size_alloc] at h, (bxx w _ _).nx (below_al _ _)⟩
theorem k1 (v : World) (A B : Array Value) (T U : TypeId) : ((v.alloc (.cells A T)).alloc (.cells B U)).heap[v.heap.size]? = some (.cells A T (0, 0)) ∧ ((v.alloc (.cells A T)).alloc (.cells B U)).heap[v.heap.size + 1]? = some (.cells B U (0, 0)) :=
  ⟨keepD (heap_alloc_new v _) (below_al _ _), nww v _ _ _⟩
theorem k2 {v : World} {g : Nat} {u0 u1 : Value} {T : TypeId} (h : v.heap[g]? = some (.cells #[u0, u1] T (0, 0))) (x y : Value) (R : Array Value) (U : TypeId) :
    (((v.setCell ⟨g, 0, none⟩ x).setCell ⟨g, 1, none⟩ y).alloc (.cells R U)).heap[g]? = some (.cells #[x, y] T (0, 0)) ∧ (((v.setCell ⟨g, 0, none⟩ x).setCell ⟨g, 1, none⟩ y).alloc (.cells R U)).heap[v.heap.size]? = some (.cells R U (0, 0)) := by
  refine ⟨keepD (s2row h) (below_al _ _), ?_⟩
  have e := heap_alloc_new ((v.setCell ⟨g, 0, none⟩ x).setCell ⟨g, 1, none⟩ y) (.cells R U)
  rwa [show ((v.setCell ⟨g, 0, none⟩ x).setCell ⟨g, 1, none⟩ y).heap.size = v.heap.size by simp [World.setCell]] at e
theorem k3 {v : World} {g k : Nat} {u0 u1 t0 t1 : Value} {T U : TypeId} (h : v.heap[g]? = some (.cells #[u0, u1] T (0, 0))) (h' : v.heap[k]? = some (.cells #[t0, t1] U (0, 0))) (hne : g ≠ k) (x y x' y' : Value) :
    ((((v.setCell ⟨g, 0, none⟩ x).setCell ⟨g, 1, none⟩ y).setCell ⟨k, 0, none⟩ x').setCell ⟨k, 1, none⟩ y').heap[g]? = some (.cells #[x, y] T (0, 0)) ∧ ((((v.setCell ⟨g, 0, none⟩ x).setCell ⟨g, 1, none⟩ y).setCell ⟨k, 0, none⟩ x').setCell ⟨k, 1, none⟩ y').heap[k]? = some (.cells #[x', y'] U (0, 0)) :=
  ⟨(o2row hne).trans (s2row h), s2row ((o2row (Ne.symm hne)).trans h')⟩
theorem o2s {v : World} {g k : Nat} {u0 u1 x y x' y' : Value} {T : TypeId} (hne : g ≠ k) (h : v.heap[g]? = some (.cells #[u0, u1] T (0, 0))) :
    ((((v.setCell ⟨g, 0, none⟩ x).setCell ⟨g, 1, none⟩ y).setCell ⟨k, 0, none⟩ x').setCell ⟨k, 1, none⟩ y').drew.heap[g]? = some (.cells #[x, y] T (0, 0)) := by
  rw [show ∀ X : World, X.drew.heap = X.heap from fun _ => rfl]
  exact (o2row hne).trans (s2row h)
theorem s2o {v : World} {g k : Nat} {u0 u1 x y x' y' : Value} {T : TypeId} (hne : g ≠ k) (h : v.heap[k]? = some (.cells #[u0, u1] T (0, 0))) :
    ((((v.setCell ⟨g, 0, none⟩ x).setCell ⟨g, 1, none⟩ y).setCell ⟨k, 0, none⟩ x').setCell ⟨k, 1, none⟩ y').drew.heap[k]? = some (.cells #[x', y'] T (0, 0)) := by
  rw [show ∀ X : World, X.drew.heap = X.heap from fun _ => rfl]
  exact s2row ((o2row (Ne.symm hne)).trans h)
theorem b4o {w v : World} {B g k : Nat} {x y x' y' : Value} (h : Below B w v) (hg : B ≤ g) (hk : B ≤ k) : Below B w ((((v.setCell ⟨g, 0, none⟩ x).setCell ⟨g, 1, none⟩ y).setCell ⟨k, 0, none⟩ x').setCell ⟨k, 1, none⟩ y').drew :=
  (b2row (b2row h hg) hk).drew
set_option maxRecDepth 100000 in
set_option maxHeartbeats 16000000 in
theorem rBoth_ok (s l g l2 g2 : Int) (hf : FitOK s l g l2 g2) (w : World) : Calls Tryz.prog 24 #[.agg #[.int .i64 s, .bool true, .int .i64 l, .int .i64 g, .bool false, .int .i64 l2, .int .i64 g2]] w
    (Ret w (.tuple #[.agg #[.int .i64 (s + (devz true s l g).1), .int .i64 (s + (devz true s l g).2)], .agg #[.int .i64 (s + (devz false s l2 g2).1), .int .i64 (s + (devz false s l2 g2).2)]])) := by
  have HX1 := Lib.hid (fun W => Away_c true s l g W hf.a0 hf.a1 hf.b0 hf.b1)
  have HX2 := Lib.hid (fun W => Away_c false s l2 g2 W hf.c0 hf.c1 hf.d0 hf.d1)
  obtain ⟨⟨p1, p2⟩, ⟨p3, p4⟩⟩ := devz_bd (s := s) true hf.a0 hf.a1 hf.b0 hf.b1
  obtain ⟨⟨p5, p6⟩, ⟨p7, p8⟩⟩ := devz_bd (s := s) false hf.c0 hf.c1 hf.d0 hf.d1
  have s0 := hf.s0
  have s1 := hf.s1
  clear hf
  generalize devz true s l g = A at *
  generalize devz false s l2 g2 = B at *
  obtain ⟨a1, a2⟩ := A
  obtain ⟨b1, b2⟩ := B
  simp only at p1 p2 p3 p4 p5 p6 p7 p8 HX1 HX2
  show Calls _ _ _ _ (Ret w (.tuple #[.agg #[.int .i64 (s + a1), .int .i64 (s + a2)], .agg #[.int .i64 (s + b1), .int .i64 (s + b2)]]))
  have HE := Lib.hid (show IntKind.i64.wrap (s + a1) = s + a1 ∧ IntKind.i64.wrap (s + a2) = s + a2 ∧ IntKind.i64.wrap (s + b1) = s + b1 ∧ IntKind.i64.wrap (s + b2) = s + b2 from ⟨IntWalk.i64_in _ (by omega), IntWalk.i64_in _ (by omega), IntWalk.i64_in _ (by omega), IntWalk.i64_in _ (by omega)⟩)
  clear p1 p2 p3 p4 p5 p6 p7 p8 s0 s1
  obtain ⟨q1, q2, q3, q4⟩ := box3 w #[.int .i64 s, .bool true, .int .i64 l, .int .i64 g, .bool false, .int .i64 l2, .int .i64 g2] #[.int .i64 0, .int .i64 0] #[.int .i64 0, .int .i64 0] 72 25 25
  go_enter Tryz.func24, Tryz.ntmps24
  go_upto_region 1 with fail
  generalize ((w.alloc (.cells #[.int .i64 s, .bool true, .int .i64 l, .int .i64 g, .bool false, .int .i64 l2, .int .i64 g2] 72)).alloc (.cells #[.int .i64 0, .int .i64 0] 25)).alloc (.cells #[.int .i64 0, .int .i64 0] 25) = W0 at *
  have HR1 := Lib.hid q1
  have HR2 := Lib.hid q2
  have HR3 := Lib.hid q3
  have HW := Lib.hid q4
  have HNG := Lib.hid (show w.heap.size + 1 ≠ w.heap.size + 1 + 1 ∧ w.heap.size ≠ w.heap.size + 1 ∧ w.heap.size ≠ w.heap.size + 1 + 1 ∧ w.heap.size ≤ w.heap.size + 1 ∧ w.heap.size ≤ w.heap.size + 1 + 1 from ⟨by omega, by omega, by omega, by omega, by omega⟩)
  clear q1 q2 q3 q4
  generalize w.heap.size + 1 + 1 = gr at *
  generalize w.heap.size + 1 = gq at *
  go_cut [2, 3, 4, 5] from 2 (fun s2 s3 s4 s5 wx => s2 = .pointer (some ⟨gq, 0, none⟩) ∧ s3 = .pointer (some ⟨gr, 0, none⟩) ∧ ∃ g4 g5 : Nat, s4 = .pointer (some ⟨g4, 0, none⟩) ∧ s5 = .pointer (some ⟨g5, 0, none⟩) ∧ W0.heap.size ≤ g4 ∧ W0.heap.size ≤ g5 ∧ Hid (wx.heap[g4]? = some (.cells #[.int .i64 a1, .int .i64 a2] 25 (0, 0))) ∧ Hid (wx.heap[g5]? = some (.cells #[.int .i64 b1, .int .i64 b2] 25 (0, 0))) ∧ Hid (Below W0.heap.size W0 wx))
  case first =>
    have HALL := Lib.hid (fun (W : World) (h : Below W0.heap.size W0 W) => (⟨c7row (keepD HR1.out h), h⟩ : (W.cell? ⟨w.heap.size, 0, none⟩ = some (.int .i64 s) ∧ W.cell? ⟨w.heap.size, 1, none⟩ = some (.bool true) ∧ W.cell? ⟨w.heap.size, 2, none⟩ = some (.int .i64 l) ∧ W.cell? ⟨w.heap.size, 3, none⟩ = some (.int .i64 g) ∧ W.cell? ⟨w.heap.size, 4, none⟩ = some (.bool false) ∧ W.cell? ⟨w.heap.size, 5, none⟩ = some (.int .i64 l2) ∧ W.cell? ⟨w.heap.size, 6, none⟩ = some (.int .i64 g2)) ∧ Below W0.heap.size W0 W))
    have hB : Below W0.heap.size W0 W0 := Below.refl _ _
    have hD : Below W0.heap.size W0 (W0.alloc (.cells #[.int .i64 0, .int .i64 0] 25)).drew := (below_al W0 _).drew
    have hE : (W0.alloc (.cells #[.int .i64 0, .int .i64 0] 25)).drew.heap[W0.heap.size]? = some (.cells #[.int .i64 0, .int .i64 0] 25 (0, 0)) := heap_alloc_new W0 _
    have hD2 : Below W0.heap.size W0 ((W0.alloc (.cells #[.int .i64 0, .int .i64 0] 25)).alloc (.cells #[.int .i64 0, .int .i64 0] 25)).drew := (bxx W0 _ _).drew
    have hE1 : ((W0.alloc (.cells #[.int .i64 0, .int .i64 0] 25)).alloc (.cells #[.int .i64 0, .int .i64 0] 25)).drew.heap[W0.heap.size]? = some (.cells #[.int .i64 0, .int .i64 0] 25 (0, 0)) := keepD (heap_alloc_new W0 _) (below_al (W0.alloc (.cells #[.int .i64 0, .int .i64 0] 25)) _).drew
    have hE2 : ((W0.alloc (.cells #[.int .i64 0, .int .i64 0] 25)).alloc (.cells #[.int .i64 0, .int .i64 0] 25)).drew.heap[W0.heap.size + 1]? = some (.cells #[.int .i64 0, .int .i64 0] 25 (0, 0)) := nww W0 _ _ _
    go_region_held3 (fun W => (W.cell? ⟨w.heap.size, 0, none⟩ = some (.int .i64 s) ∧ W.cell? ⟨w.heap.size, 1, none⟩ = some (.bool true) ∧ W.cell? ⟨w.heap.size, 2, none⟩ = some (.int .i64 l) ∧ W.cell? ⟨w.heap.size, 3, none⟩ = some (.int .i64 g) ∧ W.cell? ⟨w.heap.size, 4, none⟩ = some (.bool false) ∧ W.cell? ⟨w.heap.size, 5, none⟩ = some (.int .i64 l2) ∧ W.cell? ⟨w.heap.size, 6, none⟩ = some (.int .i64 g2)) ∧ Below W0.heap.size W0 W)
      (first
        | with_reducible exact HALL.out _ B2 | with_reducible exact HALL.out _ B1 | with_reducible exact HALL.out _ hB | with_reducible exact HALL.out _ hB.drew | with_reducible exact HALL.out _ hD | with_reducible exact HALL.out _ hD2
        | with_reducible exact HALL.out _ (B1.al _) | with_reducible exact HALL.out _ ((B1.al _).al _) | with_reducible exact HALL.out _ (B2.al _) | with_reducible exact HALL.out _ ((B2.al _).al _)
        | ((with_reducible refine HALL.out _ ?_); repeat (first | (with_reducible exact B2) | (with_reducible refine Below.al ?_ _) | (with_reducible refine Below.cel ?_ (by first | exact Nat.le_refl _ | exact Nat.le_succ _ | exact B1.size | exact B2.size | exact Nat.le_succ_of_le B1.size | exact Nat.le_succ_of_le B2.size) _))))
      (first
        | (go_at_call 67; (with_reducible refine (HX1.out _).mono ?_); rintro e v1 ⟨rfl, hb1⟩; (first
            | (with_reducible have B1 := hB.drew.nx hb1)
            | (with_reducible have B1 := hD.nx hb1; have Z1 := keepD hE hb1)
            | (with_reducible have B1 := hD2.nx hb1; have Z1 := keepD hE1 hb1; have Y1 := keepD hE2 hb1)))
        | (go_at_call 67; (with_reducible refine (HX2.out _).mono ?_); rintro e v2 ⟨rfl, hb2⟩; (first
            | (with_reducible have B2 := B1.nx hb2; (try have Z2 := keepD Z1 hb2); (try have Y2 := keepD Y1 hb2))
            | (with_reducible have B2 := (B1.nx (below_al v1 _)).nx hb2; (first | (have Z2 := keepD (keepD Z1 (below_al v1 _)) hb2; have Y2 := keepD (heap_alloc_new v1 _) hb2; have hna := Nat.ne_of_lt (Array.getElem?_eq_some_iff.1 Z1).1; have hnb := Ne.symm hna) | have Z2 := keepD (heap_alloc_new v1 _) hb2))
            | (with_reducible have B2 := (B1.nx (bxx v1 _ _)).nx hb2; have Z2 := keepD (keepD (heap_alloc_new v1 _) (below_al _ _)) hb2; have Y2 := keepD (nww v1 _ _ _) hb2));
           (try (have Z3 := Z2; have hfz := fun k => free_row Z3 k; obtain ⟨z0, z1⟩ := c2row Z3; have hlz := (Array.getElem?_eq_some_iff.1 Z3).1; have hnz := Nat.ne_of_lt hlz; have hnw := Ne.symm hnz));
           (try (have Y3 := Y2; have hfy := fun k => free_row Y3 k; obtain ⟨y0, y1⟩ := c2row Y3; have hly := (Array.getElem?_eq_some_iff.1 Y3).1; have hny := Nat.ne_of_lt hly; have hnx := Ne.symm hny)))
        | fail)
    all_goals
      go_wp2
      go_meet
      have hs1 := B1.size
      have hs2 := B2.size
      have hs3 : W0.heap.size ≤ W0.heap.size + 1 := by omega
      have hs4 : W0.heap.size ≤ v1.heap.size + 1 := by omega
      have hs5 : W0.heap.size ≤ v2.heap.size + 1 := by omega
      first
        | with_reducible exact ⟨rfl, rfl, _, _, rfl, rfl, (by first | exact Nat.le_refl _ | exact hs1 | exact hs2 | exact hs3 | exact hs4 | exact hs5), (by first | exact Nat.le_refl _ | exact hs1 | exact hs2 | exact hs3 | exact hs4 | exact hs5), Lib.hid (k1 v2 _ _ _ _).1, Lib.hid (k1 v2 _ _ _ _).2, Lib.hid ((B2.al _).al _)⟩
        | with_reducible exact ⟨rfl, rfl, _, _, rfl, rfl, (by first | exact Nat.le_refl _ | exact hs1 | exact hs2 | exact hs3 | exact hs4 | exact hs5), (by first | exact Nat.le_refl _ | exact hs1 | exact hs2 | exact hs3 | exact hs4 | exact hs5), Lib.hid (k1 v2 _ _ _ _).2, Lib.hid (k1 v2 _ _ _ _).1, Lib.hid ((B2.al _).al _)⟩
        | with_reducible exact ⟨rfl, rfl, _, _, rfl, rfl, (by first | exact Nat.le_refl _ | exact hs1 | exact hs2 | exact hs3 | exact hs4 | exact hs5), (by first | exact Nat.le_refl _ | exact hs1 | exact hs2 | exact hs3 | exact hs4 | exact hs5), Lib.hid (k2 Z2 _ _ _ _).1, Lib.hid (k2 Z2 _ _ _ _).2, Lib.hid (((B2.cel (by first | exact Nat.le_refl _ | exact hs1 | exact hs2 | exact hs3 | exact hs4 | exact hs5) _).cel (by first | exact Nat.le_refl _ | exact hs1 | exact hs2 | exact hs3 | exact hs4 | exact hs5) _).al _)⟩
        | with_reducible exact ⟨rfl, rfl, _, _, rfl, rfl, (by first | exact Nat.le_refl _ | exact hs1 | exact hs2 | exact hs3 | exact hs4 | exact hs5), (by first | exact Nat.le_refl _ | exact hs1 | exact hs2 | exact hs3 | exact hs4 | exact hs5), Lib.hid (k2 Z2 _ _ _ _).2, Lib.hid (k2 Z2 _ _ _ _).1, Lib.hid (((B2.cel (by first | exact Nat.le_refl _ | exact hs1 | exact hs2 | exact hs3 | exact hs4 | exact hs5) _).cel (by first | exact Nat.le_refl _ | exact hs1 | exact hs2 | exact hs3 | exact hs4 | exact hs5) _).al _)⟩
        | with_reducible exact ⟨rfl, rfl, _, _, rfl, rfl, (by first | exact Nat.le_refl _ | exact hs1 | exact hs2 | exact hs3 | exact hs4 | exact hs5), (by first | exact Nat.le_refl _ | exact hs1 | exact hs2 | exact hs3 | exact hs4 | exact hs5), Lib.hid (k3 Y2 Z2 (by first | assumption | omega) _ _ _ _).1, Lib.hid (k3 Y2 Z2 (by first | assumption | omega) _ _ _ _).2, Lib.hid ((((B2.cel (by first | exact Nat.le_refl _ | exact hs1 | exact hs2 | exact hs3 | exact hs4 | exact hs5) _).cel (by first | exact Nat.le_refl _ | exact hs1 | exact hs2 | exact hs3 | exact hs4 | exact hs5) _).cel (by first | exact Nat.le_refl _ | exact hs1 | exact hs2 | exact hs3 | exact hs4 | exact hs5) _).cel (by first | exact Nat.le_refl _ | exact hs1 | exact hs2 | exact hs3 | exact hs4 | exact hs5) _)⟩
        | with_reducible exact ⟨rfl, rfl, _, _, rfl, rfl, (by first | exact Nat.le_refl _ | exact hs1 | exact hs2 | exact hs3 | exact hs4 | exact hs5), (by first | exact Nat.le_refl _ | exact hs1 | exact hs2 | exact hs3 | exact hs4 | exact hs5), Lib.hid (k3 Z2 Y2 (by first | assumption | omega) _ _ _ _).1, Lib.hid (k3 Z2 Y2 (by first | assumption | omega) _ _ _ _).2, Lib.hid ((((B2.cel (by first | exact Nat.le_refl _ | exact hs1 | exact hs2 | exact hs3 | exact hs4 | exact hs5) _).cel (by first | exact Nat.le_refl _ | exact hs1 | exact hs2 | exact hs3 | exact hs4 | exact hs5) _).cel (by first | exact Nat.le_refl _ | exact hs1 | exact hs2 | exact hs3 | exact hs4 | exact hs5) _).cel (by first | exact Nat.le_refl _ | exact hs1 | exact hs2 | exact hs3 | exact hs4 | exact hs5) _)⟩
  case rest =>
  obtain ⟨rfl, rfl, g4, g5, rfl, rfl, hg4, hg5, H4, H5, HB⟩ := hcut
  generalize wc = W1 at *
  clear HX1 HX2
  have HQ := Lib.hid (keepD HR2.out HB.out)
  have HR := Lib.hid (keepD HR3.out HB.out)
  have HA := Lib.hid (keepD HR1.out HB.out)
  have lq := (Array.getElem?_eq_some_iff.1 HR2.out).1
  have lr := (Array.getElem?_eq_some_iff.1 HR3.out).1
  have HN := Lib.hid (show w.heap.size ≠ gq ∧ w.heap.size ≠ gr ∧ g4 ≠ gq ∧ g4 ≠ gr ∧ g5 ≠ gq ∧ g5 ≠ gr from ⟨HNG.out.2.1, HNG.out.2.2.1, by omega, by omega, by omega, by omega⟩)
  have HS0 : Hid (W1.cell? ⟨w.heap.size, 0, none⟩ = some (.int .i64 s) ∧ W1.cell? ⟨g4, 0, none⟩ = some (.int .i64 a1) ∧ W1.cell? ⟨g4, 1, none⟩ = some (.int .i64 a2) ∧ W1.cell? ⟨g5, 0, none⟩ = some (.int .i64 b1) ∧ W1.cell? ⟨g5, 1, none⟩ = some (.int .i64 b2)) := Lib.hid ⟨(c7row HA.out).1, (c2row H4.out).1, (c2row H4.out).2, (c2row H5.out).1, (c2row H5.out).2⟩
  have HS0d : Hid (W1.drew.cell? ⟨w.heap.size, 0, none⟩ = some (.int .i64 s) ∧ W1.drew.cell? ⟨g4, 0, none⟩ = some (.int .i64 a1) ∧ W1.drew.cell? ⟨g4, 1, none⟩ = some (.int .i64 a2) ∧ W1.drew.cell? ⟨g5, 0, none⟩ = some (.int .i64 b1) ∧ W1.drew.cell? ⟨g5, 1, none⟩ = some (.int .i64 b2)) := Lib.hid HS0.out
  have HS1 : Hid (∀ t0 t1, (((W1.setCell ⟨gq, 0, none⟩ t0).setCell ⟨gq, 1, none⟩ t1).cell? ⟨w.heap.size, 0, none⟩ = some (.int .i64 s) ∧ ((W1.setCell ⟨gq, 0, none⟩ t0).setCell ⟨gq, 1, none⟩ t1).cell? ⟨g4, 0, none⟩ = some (.int .i64 a1) ∧ ((W1.setCell ⟨gq, 0, none⟩ t0).setCell ⟨gq, 1, none⟩ t1).cell? ⟨g4, 1, none⟩ = some (.int .i64 a2) ∧ ((W1.setCell ⟨gq, 0, none⟩ t0).setCell ⟨gq, 1, none⟩ t1).cell? ⟨g5, 0, none⟩ = some (.int .i64 b1) ∧ ((W1.setCell ⟨gq, 0, none⟩ t0).setCell ⟨gq, 1, none⟩ t1).cell? ⟨g5, 1, none⟩ = some (.int .i64 b2))) := Lib.hid (fun t0 t1 => ⟨(c7row ((o2row HN.out.1).trans HA.out)).1, (c2row ((o2row HN.out.2.2.1).trans H4.out)).1, (c2row ((o2row HN.out.2.2.1).trans H4.out)).2, (c2row ((o2row HN.out.2.2.2.2.1).trans H5.out)).1, (c2row ((o2row HN.out.2.2.2.2.1).trans H5.out)).2⟩)
  have HS1d : Hid (∀ t0 t1, (((W1.setCell ⟨gq, 0, none⟩ t0).setCell ⟨gq, 1, none⟩ t1).drew.cell? ⟨w.heap.size, 0, none⟩ = some (.int .i64 s) ∧ ((W1.setCell ⟨gq, 0, none⟩ t0).setCell ⟨gq, 1, none⟩ t1).drew.cell? ⟨g4, 0, none⟩ = some (.int .i64 a1) ∧ ((W1.setCell ⟨gq, 0, none⟩ t0).setCell ⟨gq, 1, none⟩ t1).drew.cell? ⟨g4, 1, none⟩ = some (.int .i64 a2) ∧ ((W1.setCell ⟨gq, 0, none⟩ t0).setCell ⟨gq, 1, none⟩ t1).drew.cell? ⟨g5, 0, none⟩ = some (.int .i64 b1) ∧ ((W1.setCell ⟨gq, 0, none⟩ t0).setCell ⟨gq, 1, none⟩ t1).drew.cell? ⟨g5, 1, none⟩ = some (.int .i64 b2))) := Lib.hid (fun t0 t1 => HS1.out t0 t1)
  have HS2 : Hid (∀ t0 t1 t2 t3, (((((W1.setCell ⟨gq, 0, none⟩ t0).setCell ⟨gq, 1, none⟩ t1).setCell ⟨gr, 0, none⟩ t2).setCell ⟨gr, 1, none⟩ t3).cell? ⟨w.heap.size, 0, none⟩ = some (.int .i64 s) ∧ ((((W1.setCell ⟨gq, 0, none⟩ t0).setCell ⟨gq, 1, none⟩ t1).setCell ⟨gr, 0, none⟩ t2).setCell ⟨gr, 1, none⟩ t3).cell? ⟨g4, 0, none⟩ = some (.int .i64 a1) ∧ ((((W1.setCell ⟨gq, 0, none⟩ t0).setCell ⟨gq, 1, none⟩ t1).setCell ⟨gr, 0, none⟩ t2).setCell ⟨gr, 1, none⟩ t3).cell? ⟨g4, 1, none⟩ = some (.int .i64 a2) ∧ ((((W1.setCell ⟨gq, 0, none⟩ t0).setCell ⟨gq, 1, none⟩ t1).setCell ⟨gr, 0, none⟩ t2).setCell ⟨gr, 1, none⟩ t3).cell? ⟨g5, 0, none⟩ = some (.int .i64 b1) ∧ ((((W1.setCell ⟨gq, 0, none⟩ t0).setCell ⟨gq, 1, none⟩ t1).setCell ⟨gr, 0, none⟩ t2).setCell ⟨gr, 1, none⟩ t3).cell? ⟨g5, 1, none⟩ = some (.int .i64 b2))) := Lib.hid (fun t0 t1 t2 t3 => ⟨(c7row ((o2row HN.out.2.1).trans ((o2row HN.out.1).trans HA.out))).1, (c2row ((o2row HN.out.2.2.2.1).trans ((o2row HN.out.2.2.1).trans H4.out))).1, (c2row ((o2row HN.out.2.2.2.1).trans ((o2row HN.out.2.2.1).trans H4.out))).2, (c2row ((o2row HN.out.2.2.2.2.2).trans ((o2row HN.out.2.2.2.2.1).trans H5.out))).1, (c2row ((o2row HN.out.2.2.2.2.2).trans ((o2row HN.out.2.2.2.2.1).trans H5.out))).2⟩)
  have HS2d : Hid (∀ t0 t1 t2 t3, (((((W1.setCell ⟨gq, 0, none⟩ t0).setCell ⟨gq, 1, none⟩ t1).setCell ⟨gr, 0, none⟩ t2).setCell ⟨gr, 1, none⟩ t3).drew.cell? ⟨w.heap.size, 0, none⟩ = some (.int .i64 s) ∧ ((((W1.setCell ⟨gq, 0, none⟩ t0).setCell ⟨gq, 1, none⟩ t1).setCell ⟨gr, 0, none⟩ t2).setCell ⟨gr, 1, none⟩ t3).drew.cell? ⟨g4, 0, none⟩ = some (.int .i64 a1) ∧ ((((W1.setCell ⟨gq, 0, none⟩ t0).setCell ⟨gq, 1, none⟩ t1).setCell ⟨gr, 0, none⟩ t2).setCell ⟨gr, 1, none⟩ t3).drew.cell? ⟨g4, 1, none⟩ = some (.int .i64 a2) ∧ ((((W1.setCell ⟨gq, 0, none⟩ t0).setCell ⟨gq, 1, none⟩ t1).setCell ⟨gr, 0, none⟩ t2).setCell ⟨gr, 1, none⟩ t3).drew.cell? ⟨g5, 0, none⟩ = some (.int .i64 b1) ∧ ((((W1.setCell ⟨gq, 0, none⟩ t0).setCell ⟨gq, 1, none⟩ t1).setCell ⟨gr, 0, none⟩ t2).setCell ⟨gr, 1, none⟩ t3).drew.cell? ⟨g5, 1, none⟩ = some (.int .i64 b2))) := Lib.hid (fun t0 t1 t2 t3 => HS2.out t0 t1 t2 t3)
  have HS1e : Hid (∀ t0 t1, (((W1.drew.setCell ⟨gq, 0, none⟩ t0).setCell ⟨gq, 1, none⟩ t1).cell? ⟨w.heap.size, 0, none⟩ = some (.int .i64 s) ∧ ((W1.drew.setCell ⟨gq, 0, none⟩ t0).setCell ⟨gq, 1, none⟩ t1).cell? ⟨g4, 0, none⟩ = some (.int .i64 a1) ∧ ((W1.drew.setCell ⟨gq, 0, none⟩ t0).setCell ⟨gq, 1, none⟩ t1).cell? ⟨g4, 1, none⟩ = some (.int .i64 a2) ∧ ((W1.drew.setCell ⟨gq, 0, none⟩ t0).setCell ⟨gq, 1, none⟩ t1).cell? ⟨g5, 0, none⟩ = some (.int .i64 b1) ∧ ((W1.drew.setCell ⟨gq, 0, none⟩ t0).setCell ⟨gq, 1, none⟩ t1).cell? ⟨g5, 1, none⟩ = some (.int .i64 b2))) := Lib.hid (fun t0 t1 => HS1.out t0 t1)
  have HS2e : Hid (∀ t0 t1 t2 t3, (((((W1.drew.setCell ⟨gq, 0, none⟩ t0).setCell ⟨gq, 1, none⟩ t1).setCell ⟨gr, 0, none⟩ t2).setCell ⟨gr, 1, none⟩ t3).cell? ⟨w.heap.size, 0, none⟩ = some (.int .i64 s) ∧ ((((W1.drew.setCell ⟨gq, 0, none⟩ t0).setCell ⟨gq, 1, none⟩ t1).setCell ⟨gr, 0, none⟩ t2).setCell ⟨gr, 1, none⟩ t3).cell? ⟨g4, 0, none⟩ = some (.int .i64 a1) ∧ ((((W1.drew.setCell ⟨gq, 0, none⟩ t0).setCell ⟨gq, 1, none⟩ t1).setCell ⟨gr, 0, none⟩ t2).setCell ⟨gr, 1, none⟩ t3).cell? ⟨g4, 1, none⟩ = some (.int .i64 a2) ∧ ((((W1.drew.setCell ⟨gq, 0, none⟩ t0).setCell ⟨gq, 1, none⟩ t1).setCell ⟨gr, 0, none⟩ t2).setCell ⟨gr, 1, none⟩ t3).cell? ⟨g5, 0, none⟩ = some (.int .i64 b1) ∧ ((((W1.drew.setCell ⟨gq, 0, none⟩ t0).setCell ⟨gq, 1, none⟩ t1).setCell ⟨gr, 0, none⟩ t2).setCell ⟨gr, 1, none⟩ t3).cell? ⟨g5, 1, none⟩ = some (.int .i64 b2))) := Lib.hid (fun t0 t1 t2 t3 => HS2.out t0 t1 t2 t3)
  obtain ⟨e1, e2, e3, e4⟩ := HE.out
  obtain ⟨c0, a3, a4, b3, b4⟩ := HS0.out
  obtain ⟨q0, q1⟩ := c2row HQ.out
  obtain ⟨r0, r1⟩ := c2row HR.out
  have hfq := fun k => free_row HQ.out k
  have hfr := fun k => free_row HR.out k
  have q0d : W1.drew.cell? ⟨gq, 0, none⟩ = some (.int .i64 0) := q0
  have q1d : W1.drew.cell? ⟨gq, 1, none⟩ = some (.int .i64 0) := q1
  have r0d : W1.drew.cell? ⟨gr, 0, none⟩ = some (.int .i64 0) := r0
  have r1d : W1.drew.cell? ⟨gr, 1, none⟩ = some (.int .i64 0) := r1
  have hfqd : ∀ k, W1.drew.frozen? ⟨gq, k, none⟩ = false := hfq
  have hfrd : ∀ k, W1.drew.frozen? ⟨gr, k, none⟩ = false := hfr
  obtain ⟨m1, m2, m3, m4, m5, m6⟩ := HN.out
  have m7 := Ne.symm m1
  have m8 := Ne.symm m2
  have m9 := Ne.symm m3
  have m10 := Ne.symm m4
  have m11 := Ne.symm m5
  have m12 := Ne.symm m6
  have n1 := HNG.out.1
  have n6 := Ne.symm n1
  have HW1 := Lib.hid (HW.out.nx HB.out)
  clear hg4 hg5 lq lr
  go_upto_region 2 with fail
  go_region_held3 (fun W => (W.cell? ⟨w.heap.size, 0, none⟩ = some (.int .i64 s) ∧ W.cell? ⟨g4, 0, none⟩ = some (.int .i64 a1) ∧ W.cell? ⟨g4, 1, none⟩ = some (.int .i64 a2) ∧ W.cell? ⟨g5, 0, none⟩ = some (.int .i64 b1) ∧ W.cell? ⟨g5, 1, none⟩ = some (.int .i64 b2)))
    (first | with_reducible exact HS2e.out _ _ _ _ | with_reducible exact HS1e.out _ _ | with_reducible exact HS2.out _ _ _ _ | with_reducible exact HS2d.out _ _ _ _ | with_reducible exact HS1.out _ _ | with_reducible exact HS1d.out _ _ | with_reducible exact HS0.out | with_reducible exact HS0d.out)
    (first | fail)
  all_goals
    go_wp2
    first
      | (refine bodyPost_ret (res_cc rfl (by kernel_rfl) (o2s HNG.out.1 HQ.out) Tryz.underlying25 rfl (by kernel_rfl) (by kernel_rfl) (s2o HNG.out.1 HR.out) Tryz.underlying25 rfl (by kernel_rfl)) rfl ?_
         exact ⟨rfl, b4o HW1.out HNG.out.2.2.2.1 HNG.out.2.2.2.2⟩)
      | (refine bodyPost_ret (res_cc rfl (by kernel_rfl) ((o2row HNG.out.1).trans (s2row HQ.out)) Tryz.underlying25 rfl (by kernel_rfl) (by kernel_rfl) (s2row ((o2row (Ne.symm HNG.out.1)).trans HR.out)) Tryz.underlying25 rfl (by kernel_rfl)) rfl ?_
         exact ⟨rfl, b2row (b2row HW1.out HNG.out.2.2.2.1) HNG.out.2.2.2.2⟩)
end Go.Proofs.Wk
