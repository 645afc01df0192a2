/- TOLERANCE GRADES: the deviations of a class. -/
import Derived.Test.YtachiilmgnognaaFitB
import Derived.Deep.RegionHeld3
namespace Go.Proofs.Wk
open Go.RowKit

abbrev lim (p : Int × Int) : Value := .agg #[.int .i64 p.1, .int .i64 p.2]
/-- The deviations by the tolerance and the shift. -/
def dev3 (l T S : Int) : Int × Int := if l ≤ 4 then (-S - T, -S) else if l = 5 then (-(T / 2), T / 2) else (S, S + T)
set_option maxRecDepth 100000 in
theorem rule1 (T S : Int) (w : World) (t0 : 0 ≤ T) (t1 : T ≤ 1000) (s0 : 0 ≤ S) (s1 : S ≤ 1000) : Calls Try.prog 32 #[.int .i64 T, .int .i64 S] w (Ret w (lim (-S - T, -S))) := by
  have hB : Below w.heap.size w (w.alloc (.cells #[.int .i64 (-S - T), .int .i64 (-S)] 27)) := (Below.refl _ _).alloc (Nat.le_refl _) _
  have k1 : IntKind.i64.wrap (-S) = -S := IntWalk.i64_in _ (by omega)
  have k2 : IntKind.i64.wrap (-S - T) = -S - T := IntWalk.i64_in _ (by omega)
  clear t0 t1 s0 s1
  go_enter Try.func32, Try.ntmps32
  go_wp2
  go_returns
  exact ⟨rfl, hB⟩
set_option maxRecDepth 100000 in
theorem rule2 (T S : Int) (w : World) (t0 : 0 ≤ T) (t1 : T ≤ 1000) : Calls Try.prog 33 #[.int .i64 T, .int .i64 S] w (Ret w (lim (-(T / 2), T / 2))) := by
  have hB : Below w.heap.size w (w.alloc (.cells #[.int .i64 (-(T / 2)), .int .i64 (T / 2)] 27)) := (Below.refl _ _).alloc (Nat.le_refl _) _
  have k0 : T.tdiv 2 = T / 2 := Int.tdiv_eq_ediv_of_nonneg t0
  have k1 : IntKind.i64.wrap (T / 2) = T / 2 := IntWalk.i64_in _ (by omega)
  have k2 : IntKind.i64.wrap (-(T / 2)) = -(T / 2) := IntWalk.i64_in _ (by omega)
  clear t1
  go_enter Try.func33, Try.ntmps33
  go_wp2
  go_returns
  exact ⟨rfl, hB⟩
set_option maxRecDepth 100000 in
theorem rule3 (T S : Int) (w : World) (t0 : 0 ≤ T) (t1 : T ≤ 1000) (s0 : 0 ≤ S) (s1 : S ≤ 1000) : Calls Try.prog 34 #[.int .i64 T, .int .i64 S] w (Ret w (lim (S, S + T))) := by
  have hB : Below w.heap.size w (w.alloc (.cells #[.int .i64 S, .int .i64 (S + T)] 27)) := (Below.refl _ _).alloc (Nat.le_refl _) _
  have k1 : IntKind.i64.wrap (S + T) = S + T := IntWalk.i64_in _ (by omega)
  clear t0 t1 s0 s1
  go_enter Try.func34, Try.ntmps34
  go_wp2
  go_returns
  exact ⟨rfl, hB⟩
/-- A class, the result's block, a letter's block, and what was there before. -/
structure DV (w0 : World) (b : Nat) (h : Bool) (l g : Int) (w : World) : Prop where
  c : w.heap[b]? = some (.cells #[.bool h, .int .i64 l, .int .i64 g] 32 (0, 0))
  r : w.heap[b + 1]? = some (.cells #[.int .i64 0, .int .i64 0] 27 (0, 0))
  w : Below w0.heap.size w0 w
  s : w0.heap.size ≤ b
theorem DV.later {w0 : World} {b : Nat} {h : Bool} {l g : Int} {w w' : World} (j : DV w0 b h l g w) (hb : Below w.heap.size w w') : DV w0 b h l g w' :=
  ⟨by rw [hb.block b (Array.getElem?_eq_some_iff.1 j.c).1]; exact j.c, by rw [hb.block (b + 1) (Array.getElem?_eq_some_iff.1 j.r).1]; exact j.r, j.w.trans (hb.mono j.w.size), j.s⟩
theorem DV.alloc {w0 : World} {b : Nat} {h : Bool} {l g : Int} {w : World} (j : DV w0 b h l g w) (o : Obj) : DV w0 b h l g (w.alloc o) := j.later ((Below.refl _ _).alloc (Nat.le_refl _) o)
theorem DV.drew {w0 : World} {b : Nat} {h : Bool} {l g : Int} {w : World} (j : DV w0 b h l g w) : DV w0 b h l g w.drew := j.later (Below.refl _ _).drew
theorem DV.c0 {w0 : World} {b : Nat} {h : Bool} {l g : Int} {w : World} (j : DV w0 b h l g w) : w.cell? ⟨b, 0, none⟩ = some (.bool h) := by rw [cell_of_row _ _ _ _ _ _ j.c]; rfl
theorem DV.c1 {w0 : World} {b : Nat} {h : Bool} {l g : Int} {w : World} (j : DV w0 b h l g w) : w.cell? ⟨b, 1, none⟩ = some (.int .i64 l) := by rw [cell_of_row _ _ _ _ _ _ j.c]; rfl
theorem DV.c2 {w0 : World} {b : Nat} {h : Bool} {l g : Int} {w : World} (j : DV w0 b h l g w) : w.cell? ⟨b, 2, none⟩ = some (.int .i64 g) := by rw [cell_of_row _ _ _ _ _ _ j.c]; rfl
theorem DV.new (w0 : World) (h : Bool) (l g : Int) : DV w0 w0.heap.size h l g ((w0.alloc (.cells #[.bool h, .int .i64 l, .int .i64 g] 32)).alloc (.cells #[.int .i64 0, .int .i64 0] 27)) := by
  have b1 : Below w0.heap.size w0 (w0.alloc (.cells #[.bool h, .int .i64 l, .int .i64 g] 32)) := (Below.refl _ _).alloc (Nat.le_refl _) _
  have b2 : Below (w0.alloc (.cells #[.bool h, .int .i64 l, .int .i64 g] 32)).heap.size (w0.alloc (.cells #[.bool h, .int .i64 l, .int .i64 g] 32)) ((w0.alloc (.cells #[.bool h, .int .i64 l, .int .i64 g] 32)).alloc (.cells #[.int .i64 0, .int .i64 0] 27)) := (Below.refl _ _).alloc (Nat.le_refl _) _
  have h1 := heap_alloc_new w0 (.cells #[.bool h, .int .i64 l, .int .i64 g] 32)
  have h2 := heap_alloc_new (w0.alloc (.cells #[.bool h, .int .i64 l, .int .i64 g] 32)) (.cells #[.int .i64 0, .int .i64 0] 27)
  rw [show (w0.alloc (.cells #[.bool h, .int .i64 l, .int .i64 g] 32)).heap.size = w0.heap.size + 1 by simp] at h2
  exact ⟨by rw [b2.block w0.heap.size (alloc_lt w0 _)]; exact h1, h2, b1.trans (b2.mono b1.size), Nat.le_refl _⟩
/-- The deviations of a class. -/
def devz (h : Bool) (s l g : Int) : Int × Int := if h then (-(dev3 l (tol s g) (sha s l)).2, -(dev3 l (tol s g) (sha s l)).1) else dev3 l (tol s g) (sha s l)
theorem dev3_bd {l T S : Int} (t0 : 0 ≤ T) (t1 : T ≤ 352) (s0 : 0 ≤ S) (s1 : S ≤ 110) : (-1000 ≤ (dev3 l T S).1 ∧ (dev3 l T S).1 ≤ 1000) ∧ (-1000 ≤ (dev3 l T S).2 ∧ (dev3 l T S).2 ≤ 1000) := by
  unfold dev3; repeat' split
  all_goals (simp only; omega)

/-- The rule of a letter. -/
theorem rule_c {l : Int} (T S : Int) (w : World) (t0 : 0 ≤ T) (t1 : T ≤ 1000) (s0 : 0 ≤ S) (s1 : S ≤ 1000) : Calls Try.prog (letF l) #[.int .i64 T, .int .i64 S] w (Ret w (lim (dev3 l T S))) := by
  unfold letF dev3
  by_cases h1 : l ≤ 4
  · rw [if_pos h1, if_pos h1]; exact rule1 T S w t0 t1 s0 s1
  · rw [if_neg h1, if_neg h1]
    by_cases h2 : l = 5
    · rw [if_pos h2, if_pos h2]; exact rule2 T S w t0 t1
    · rw [if_neg h2, if_neg h2]; exact rule3 T S w t0 t1 s0 s1
theorem fresh_later {w w' : World} {o : Obj} (h : Below (w.alloc o).drew.heap.size (w.alloc o).drew w') : w'.heap[w.heap.size]? = some o := (h.block _ (alloc_lt w o)).trans (heap_alloc_new w o)
/-- With the letter's block. -/
structure DX (w0 : World) (b : Nat) (h : Bool) (l g : Int) (x : Nat) (G : Int) (f : FuncId) (w : World) : Prop where
  d : DV w0 b h l g w
  x : w.heap[x]? = some (.cells #[.int .i64 G, .func (.func f) #[] #[]] 70 (0, 0))
theorem DX.later {w0 : World} {b : Nat} {h : Bool} {l g : Int} {x : Nat} {G : Int} {f : FuncId} {w w' : World} (j : DX w0 b h l g x G f w) (hb : Below w.heap.size w w') : DX w0 b h l g x G f w' :=
  ⟨j.d.later hb, by rw [hb.block x (Array.getElem?_eq_some_iff.1 j.x).1]; exact j.x⟩
theorem DX.alloc {w0 : World} {b : Nat} {h : Bool} {l g : Int} {x : Nat} {G : Int} {f : FuncId} {w : World} (j : DX w0 b h l g x G f w) (o : Obj) : DX w0 b h l g x G f (w.alloc o) := j.later ((Below.refl _ _).alloc (Nat.le_refl _) o)
theorem DX.drew {w0 : World} {b : Nat} {h : Bool} {l g : Int} {x : Nat} {G : Int} {f : FuncId} {w : World} (j : DX w0 b h l g x G f w) : DX w0 b h l g x G f w.drew := j.later (Below.refl _ _).drew
theorem DX.x0 {w0 : World} {b : Nat} {h : Bool} {l g : Int} {x : Nat} {G : Int} {f : FuncId} {w : World} (j : DX w0 b h l g x G f w) : w.cell? ⟨x, 0, none⟩ = some (.int .i64 G) := by rw [cell_of_row _ _ _ _ _ _ j.x]; rfl
theorem DX.x1 {w0 : World} {b : Nat} {h : Bool} {l g : Int} {x : Nat} {G : Int} {f : FuncId} {w : World} (j : DX w0 b h l g x G f w) : w.cell? ⟨x, 1, none⟩ = some (.func (.func f) #[] #[]) := by rw [cell_of_row _ _ _ _ _ _ j.x]; rfl
theorem DV.put {w0 : World} {b : Nat} {h : Bool} {l g : Int} {w : World} (j : DV w0 b h l g w) {x : Nat} (hx : b + 1 < x) (i : Nat) (v : Value) : DV w0 b h l g (w.setCell ⟨x, i, none⟩ v) :=
  ⟨by rw [Below.heap_setCell _ _ _ _ (by show b ≠ x; omega)]; exact j.c, by rw [Below.heap_setCell _ _ _ _ (by show b + 1 ≠ x; omega)]; exact j.r, j.w.setCell (by show w0.heap.size ≤ x; have := j.s; omega) v, j.s⟩
theorem DX.put {w0 : World} {b : Nat} {h : Bool} {l g : Int} {w : World} (j : DV w0 b h l g w) {x : Nat} (hx : b + 1 < x) (G : Int) (f : FuncId) (k : w.heap[x]? = some (.cells #[.int .i64 0, .nilFunc] 70 (0, 0))) :
    DX w0 b h l g x G f ((w.setCell ⟨x, 0, none⟩ (.int .i64 G)).setCell ⟨x, 1, none⟩ (.func (.func f) #[] #[])) :=
  ⟨(j.put hx 0 _).put hx 1 _, heap_setCell_same _ x 1 _ _ _ (heap_setCell_same w x 0 _ _ (.int .i64 G) k)⟩
theorem DX.new {w0 : World} {b : Nat} {h : Bool} {l g : Int} {w : World} (j : DV w0 b h l g w) {x : Nat} (G : Int) (f : FuncId) (e : x = w.heap.size) :
    DX w0 b h l g x G f (w.alloc (.cells #[.int .i64 G, .func (.func f) #[] #[]] 70)) := ⟨j.alloc _, by rw [e]; exact heap_alloc_new _ _⟩
/-- The block of the limits, before and after. -/
structure DY (b x y : Nat) (A B : Int) (w : World) : Prop where
  row : w.heap[y]? = some (.cells #[.int .i64 A, .int .i64 B] 27 (0, 0))
  hb : b + 1 < y
  hx : x < y
theorem DY.new {w0 : World} {b : Nat} {h : Bool} {l g : Int} {x : Nat} {G : Int} {f : FuncId} {w w' : World} (j : DX w0 b h l g x G f w) (hb : Below (w.alloc (.cells #[.int .i64 0, .int .i64 0] 27)).heap.size (w.alloc (.cells #[.int .i64 0, .int .i64 0] 27)) w') : DY b x w.heap.size 0 0 w' :=
  ⟨(hb.block _ (alloc_lt w _)).trans (heap_alloc_new w _), (Array.getElem?_eq_some_iff.1 j.d.r).1, (Array.getElem?_eq_some_iff.1 j.x).1⟩
theorem DY.newd {w0 : World} {b : Nat} {h : Bool} {l g : Int} {x : Nat} {G : Int} {f : FuncId} {w w' : World} (j : DX w0 b h l g x G f w) (hb : Below (w.alloc (.cells #[.int .i64 0, .int .i64 0] 27)).drew.heap.size (w.alloc (.cells #[.int .i64 0, .int .i64 0] 27)).drew w') : DY b x w.heap.size 0 0 w' :=
  ⟨(hb.block _ (alloc_lt w _)).trans (heap_alloc_new w _), (Array.getElem?_eq_some_iff.1 j.d.r).1, (Array.getElem?_eq_some_iff.1 j.x).1⟩
theorem DY.fresh {w0 : World} {b : Nat} {h : Bool} {l g : Int} {x : Nat} {G : Int} {f : FuncId} {w : World} (j : DX w0 b h l g x G f w) (A B : Int) : DY b x w.heap.size A B (w.alloc (.cells #[.int .i64 A, .int .i64 B] 27)) :=
  ⟨heap_alloc_new w _, (Array.getElem?_eq_some_iff.1 j.d.r).1, (Array.getElem?_eq_some_iff.1 j.x).1⟩
theorem DY.later {b x y : Nat} {A B : Int} {w w' : World} (k : DY b x y A B w) (hb : Below w.heap.size w w') : DY b x y A B w' := ⟨(hb.block y (Array.getElem?_eq_some_iff.1 k.row).1).trans k.row, k.hb, k.hx⟩
theorem DY.c {b x y : Nat} {A B : Int} {w : World} (k : DY b x y A B w) : w.cell? ⟨y, 0, none⟩ = some (.int .i64 A) ∧ w.cell? ⟨y, 1, none⟩ = some (.int .i64 B) ∧ w.frozen? ⟨y, 0, none⟩ = false ∧ w.frozen? ⟨y, 1, none⟩ = false :=
  ⟨by rw [cell_of_row _ _ _ _ _ _ k.row]; rfl, by rw [cell_of_row _ _ _ _ _ _ k.row]; rfl, frozen_of_row _ _ _ _ _ k.row, frozen_of_row _ _ _ _ _ k.row⟩
theorem DX.sc {w0 : World} {b : Nat} {h : Bool} {l g : Int} {x : Nat} {G : Int} {f : FuncId} {w : World} (j : DX w0 b h l g x G f w) {y : Nat} {A B : Int} {w1 : World} (k : DY b x y A B w1) (i : Nat) (v : Value) : DX w0 b h l g x G f (w.setCell ⟨y, i, none⟩ v) :=
  ⟨j.d.put k.hb i v, by rw [Below.heap_setCell _ _ _ _ (by show x ≠ y; have := k.hx; omega)]; exact j.x⟩
theorem DY.put {b x y : Nat} {w : World} (k : DY b x y 0 0 w) (A B : Int) : DY b x y A B ((w.setCell ⟨y, 0, none⟩ (.int .i64 A)).setCell ⟨y, 1, none⟩ (.int .i64 B)) :=
  ⟨heap_setCell_same _ y 1 _ _ _ (heap_setCell_same w y 0 _ _ (.int .i64 A) k.row), k.hb, k.hx⟩
theorem DV.rc {w0 : World} {b : Nat} {h : Bool} {l g : Int} {w : World} (j : DV w0 b h l g w) : w.cell? ⟨b + 1, 0, none⟩ = some (.int .i64 0) ∧ w.cell? ⟨b + 1, 1, none⟩ = some (.int .i64 0) ∧ w.frozen? ⟨b + 1, 0, none⟩ = false ∧ w.frozen? ⟨b + 1, 1, none⟩ = false :=
  ⟨by rw [cell_of_row _ _ _ _ _ _ j.r]; rfl, by rw [cell_of_row _ _ _ _ _ _ j.r]; rfl, frozen_of_row _ _ _ _ _ j.r, frozen_of_row _ _ _ _ _ j.r⟩
set_option maxRecDepth 100000 in
set_option maxHeartbeats 4000000 in
theorem deviations1 (h : Bool) (s l g : Int) (w : World) (hs : s ≤ 100000) (l0 : 0 ≤ l) (l1 : l ≤ 9) (hl : l ≤ 4) (g0 : 5 ≤ g) (g1 : g ≤ 12) :
    Calls Try.prog 19 #[.int .i64 s, .agg #[.bool h, .int .i64 l, .int .i64 g]] w (Ret w (lim (devz h s l g))) := by
  have H0 := letters_c; have H1 := steps_c
  have H2 := Lib.hid (fun W => index_c s W hs)
  have HT := Lib.hid (fun W => tolerance_c s g W hs g0 g1)
  obtain ⟨m, r1⟩ := ix_run s
  have r2 := let_run l0 l1
  have hf : letF l = 32 := by unfold letF; rw [if_pos hl]
  rw [hf] at r2
  have r3 : ∀ (m b : Int) W, (Instr.field 62 (.agg #[.int .i64 m, .int .i64 b]) 1).run Try.prog W = .ok (.int .i64 b) W := fun m b W => rfl
  obtain ⟨tb0, tb1⟩ := tol_bd (s := s) g0 g1
  obtain ⟨sb0, sb1⟩ := sha_bd (s := s) l0 l1
  have HR := Lib.hid (fun W => rule_c (l := l) (tol s g) (sha s l) W (by omega) (by omega) (by omega) (by omega))
  rw [hf] at HR
  have hd3 := dev3_bd (l := l) (show 0 ≤ tol s g by omega) tb1 sb0 sb1
  obtain ⟨V, hV⟩ : ∃ V, stepsV = V := ⟨_, rfl⟩
  obtain ⟨F, hF⟩ : ∃ V, letV = V := ⟨_, rfl⟩
  rw [hV] at H1 r1; rw [hF] at H0 r2
  have HS := Lib.hid H1; have HF := Lib.hid H0
  obtain ⟨a, b⟩ := baS_bd s; obtain ⟨c, d⟩ := shf_bd l0 l1
  obtain ⟨p0, p1⟩ := prod_bd (show 0 ≤ baS s by omega) b c d
  have w1 : IntKind.i64.wrap (baS s * shf l) = baS s * shf l := IntWalk.i64_in _ (by omega)
  have q : baS s * shf l / 10 = sha s l := rfl
  have w3 : IntKind.i64.wrap (sha s l) = sha s l := IntWalk.i64_in _ (by omega)
  unfold devz
  generalize dev3 l (tol s g) (sha s l) = D at *
  obtain ⟨D1, D2⟩ := D
  simp only at hd3
  obtain ⟨⟨x0, x1⟩, x2, x3⟩ := hd3
  have y1 : IntKind.i64.wrap (-D1) = -D1 := IntWalk.i64_in _ (by omega)
  have y2 : IntKind.i64.wrap (-D2) = -D2 := IntWalk.i64_in _ (by omega)
  clear hV hF H0 H1 hs l0 l1 hl hf g0 g1 x0 x1 x2 x3
  generalize tol s g = T at *
  generalize sha s l = S at *
  generalize baS s = B at *
  generalize shf l = G at *
  generalize ixS s = I at *
  obtain ⟨PP, q1⟩ : ∃ v, B * G = v := ⟨_, rfl⟩
  have j1 := w1.trans q1
  rw [q1] at q p0 p1
  clear w1 q1
  have q2 : PP.tdiv 10 = S := by rw [Int.tdiv_eq_ediv_of_nonneg p0]; exact q
  have JN := DV.new w h l g
  go_enter Try.func19, Try.ntmps19
  have e2 : ((w.alloc (.cells #[.bool h, .int .i64 l, .int .i64 g] 32)).alloc (.cells #[.int .i64 0, .int .i64 0] 27)).heap.size = w.heap.size + 1 + 1 := by simp
  go_upto_region 1 with fail
  go_cut [5] (fun s5 wx => ∃ x, s5 = .pointer (some ⟨x, 0, none⟩) ∧ DX w w.heap.size h l g x G 32 wx)
  case first =>
    go_region_held3 (fun w' => w'.cell? ⟨w.heap.size, 1, none⟩ = some (.int .i64 l) ∧ DV w w.heap.size h l g w') (first | exact ⟨J'.c1, J'⟩ | exact ⟨(J'.alloc _).c1, J'.alloc _⟩ | exact ⟨((J'.put (x := w.heap.size + 2) (Nat.lt_succ_self _) _ _).put (x := w.heap.size + 2) (Nat.lt_succ_self _) _ _).c1, (J'.put (x := w.heap.size + 2) (Nat.lt_succ_self _) _ _).put (x := w.heap.size + 2) (Nat.lt_succ_self _) _ _⟩ | exact ⟨(JN.drew.alloc _).c1, (JN.drew.alloc _)⟩ | exact ⟨JN.drew.c1, JN.drew⟩ | exact ⟨JN.c1, JN⟩)
      (first | (go_at_call 28; (with_reducible refine (HF.out _).mono ?_); rintro e w' ⟨rfl, hb'⟩; have J' := DV.later (by first | assumption | exact And.right (by assumption)) hb'; (try (have K2 := fresh_later hb'; rw [e2] at K2; have K0 := cell_of_row _ _ 0 _ _ _ K2; have K1 := cell_of_row _ _ 1 _ _ _ K2; have F0 := frozen_of_row _ _ 0 _ _ K2; have F1 := frozen_of_row _ _ 1 _ _ K2))))
    all_goals (go_wp2_with fail; go_meet)
    all_goals first | exact ⟨_, rfl, DX.new J' G 32 rfl⟩ | exact ⟨_, rfl, DX.put J' (by omega) G 32 K2⟩
  case rest =>
    obtain ⟨x, rfl, J⟩ := hcut
    clear JN e2
    go_upto_region 2 with fail
    go_cut [6] (fun s6 wy => ∃ y, s6 = .pointer (some ⟨y, 0, none⟩) ∧ DX w w.heap.size h l g x G 32 wy ∧ DY w.heap.size x y D1 D2 wy)
    case first =>
      go_region_held3 (fun w' => w'.cell? ⟨w.heap.size, 2, none⟩ = some (.int .i64 g) ∧ w'.cell? ⟨x, 0, none⟩ = some (.int .i64 G) ∧ w'.cell? ⟨x, 1, none⟩ = some (.func (.func 32) #[] #[]) ∧ DX w w.heap.size h l g x G 32 w') (first | exact ⟨J'.d.c2, J'.x0, J'.x1, J'⟩ | exact ⟨(J'.alloc _).d.c2, (J'.alloc _).x0, (J'.alloc _).x1, J'.alloc _⟩ | exact ⟨((J'.sc K2 _ _).sc K2 _ _).d.c2, ((J'.sc K2 _ _).sc K2 _ _).x0, ((J'.sc K2 _ _).sc K2 _ _).x1, (J'.sc K2 _ _).sc K2 _ _⟩ | exact ⟨(J.alloc _).drew.d.c2, (J.alloc _).drew.x0, (J.alloc _).drew.x1, (J.alloc _).drew⟩ | exact ⟨J.drew.d.c2, J.drew.x0, J.drew.x1, J.drew⟩ | exact ⟨J.d.c2, J.x0, J.x1, J⟩)
        (first
        | (go_at_call 17; (with_reducible refine (HT.out _).mono ?_); rintro e w' ⟨rfl, hb'⟩; (first | (have K2 := DY.new J' hb') | (have K2 := DY.newd J hb') | (have K2 := K2.later hb') | skip); have J' := DX.later (by first | assumption | exact And.right (And.right (And.right (by assumption)))) hb'; (try (obtain ⟨k0, k1, k2, k3⟩ := K2.c)))
        | (go_at_call 25; (with_reducible refine (HS.out _).mono ?_); rintro e w' ⟨rfl, hb'⟩; (first | (have K2 := DY.new J' hb') | (have K2 := DY.newd J hb') | (have K2 := K2.later hb') | skip); have J' := DX.later (by first | assumption | exact And.right (And.right (And.right (by assumption)))) hb'; (try (obtain ⟨k0, k1, k2, k3⟩ := K2.c)))
        | (go_at_call 26; (with_reducible refine (H2.out _).mono ?_); rintro e w' ⟨rfl, hb'⟩; (first | (have K2 := DY.new J' hb') | (have K2 := DY.newd J hb') | (have K2 := K2.later hb') | skip); have J' := DX.later (by first | assumption | exact And.right (And.right (And.right (by assumption)))) hb'; (try (obtain ⟨k0, k1, k2, k3⟩ := K2.c)))
        | (go_at_call 32; (with_reducible refine (HR.out _).mono ?_); rintro e w' ⟨rfl, hb'⟩; (first | (have K2 := DY.new J' hb') | (have K2 := DY.newd J hb') | (have K2 := K2.later hb') | skip); have J' := DX.later (by first | assumption | exact And.right (And.right (And.right (by assumption)))) hb'; (try (obtain ⟨k0, k1, k2, k3⟩ := K2.c)))
        )
      all_goals (go_wp2_with fail; go_meet)
      all_goals first | exact ⟨_, rfl, J'.alloc _, DY.fresh J' D1 D2⟩ | exact ⟨_, rfl, (J'.sc K2 _ _).sc K2 _ _, DY.put K2 D1 D2⟩
    case rest =>
      clear J
      obtain ⟨y, rfl, J, Y⟩ := hcut
      have k0 := J.d.c0
      obtain ⟨k1, k2, -, -⟩ := Y.c
      obtain ⟨k3, k4, k5, k6⟩ := J.d.rc
      have zr : ∀ A B : Value, ((wc.setCell ⟨w.heap.size + 1, 0, none⟩ A).setCell ⟨w.heap.size + 1, 1, none⟩ B).heap[w.heap.size + 1]? = some (.cells #[A, B] 27 (0, 0)) := fun A B => heap_setCell_same _ (w.heap.size + 1) 1 _ _ B (heap_setCell_same wc (w.heap.size + 1) 0 _ _ A J.d.r)
      have hJ := Lib.hid J.d.w
      cases h
      all_goals
        go_wp2_with fail
        refine bodyPost_ret (results_cell_row rfl _ _ (w.heap.size + 1) 27 _ _ _ (by kernel_rfl) (zr _ _) Try.underlying27 rfl (by kernel_rfl)) rfl ?_
        exact ⟨rfl, (hJ.out.setCell (by simp) _).setCell (by simp) _⟩
set_option maxRecDepth 100000 in
set_option maxHeartbeats 4000000 in
theorem deviations2 (h : Bool) (s l g : Int) (w : World) (hs : s ≤ 100000) (l0 : 0 ≤ l) (l1 : l ≤ 9) (hl : l = 5) (g0 : 5 ≤ g) (g1 : g ≤ 12) :
    Calls Try.prog 19 #[.int .i64 s, .agg #[.bool h, .int .i64 l, .int .i64 g]] w (Ret w (lim (devz h s l g))) := by
  have H0 := letters_c; have H1 := steps_c
  have H2 := Lib.hid (fun W => index_c s W hs)
  have HT := Lib.hid (fun W => tolerance_c s g W hs g0 g1)
  obtain ⟨m, r1⟩ := ix_run s
  have r2 := let_run l0 l1
  have hf : letF l = 33 := by unfold letF; rw [if_neg (by omega), if_pos hl]
  rw [hf] at r2
  have r3 : ∀ (m b : Int) W, (Instr.field 62 (.agg #[.int .i64 m, .int .i64 b]) 1).run Try.prog W = .ok (.int .i64 b) W := fun m b W => rfl
  obtain ⟨tb0, tb1⟩ := tol_bd (s := s) g0 g1
  obtain ⟨sb0, sb1⟩ := sha_bd (s := s) l0 l1
  have HR := Lib.hid (fun W => rule_c (l := l) (tol s g) (sha s l) W (by omega) (by omega) (by omega) (by omega))
  rw [hf] at HR
  have hd3 := dev3_bd (l := l) (show 0 ≤ tol s g by omega) tb1 sb0 sb1
  obtain ⟨V, hV⟩ : ∃ V, stepsV = V := ⟨_, rfl⟩
  obtain ⟨F, hF⟩ : ∃ V, letV = V := ⟨_, rfl⟩
  rw [hV] at H1 r1; rw [hF] at H0 r2
  have HS := Lib.hid H1; have HF := Lib.hid H0
  obtain ⟨a, b⟩ := baS_bd s; obtain ⟨c, d⟩ := shf_bd l0 l1
  obtain ⟨p0, p1⟩ := prod_bd (show 0 ≤ baS s by omega) b c d
  have w1 : IntKind.i64.wrap (baS s * shf l) = baS s * shf l := IntWalk.i64_in _ (by omega)
  have q : baS s * shf l / 10 = sha s l := rfl
  have w3 : IntKind.i64.wrap (sha s l) = sha s l := IntWalk.i64_in _ (by omega)
  unfold devz
  generalize dev3 l (tol s g) (sha s l) = D at *
  obtain ⟨D1, D2⟩ := D
  simp only at hd3
  obtain ⟨⟨x0, x1⟩, x2, x3⟩ := hd3
  have y1 : IntKind.i64.wrap (-D1) = -D1 := IntWalk.i64_in _ (by omega)
  have y2 : IntKind.i64.wrap (-D2) = -D2 := IntWalk.i64_in _ (by omega)
  clear hV hF H0 H1 hs l0 l1 hl hf g0 g1 x0 x1 x2 x3
  generalize tol s g = T at *
  generalize sha s l = S at *
  generalize baS s = B at *
  generalize shf l = G at *
  generalize ixS s = I at *
  obtain ⟨PP, q1⟩ : ∃ v, B * G = v := ⟨_, rfl⟩
  have j1 := w1.trans q1
  rw [q1] at q p0 p1
  clear w1 q1
  have q2 : PP.tdiv 10 = S := by rw [Int.tdiv_eq_ediv_of_nonneg p0]; exact q
  have JN := DV.new w h l g
  go_enter Try.func19, Try.ntmps19
  have e2 : ((w.alloc (.cells #[.bool h, .int .i64 l, .int .i64 g] 32)).alloc (.cells #[.int .i64 0, .int .i64 0] 27)).heap.size = w.heap.size + 1 + 1 := by simp
  go_upto_region 1 with fail
  go_cut [5] (fun s5 wx => ∃ x, s5 = .pointer (some ⟨x, 0, none⟩) ∧ DX w w.heap.size h l g x G 33 wx)
  case first =>
    go_region_held3 (fun w' => w'.cell? ⟨w.heap.size, 1, none⟩ = some (.int .i64 l) ∧ DV w w.heap.size h l g w') (first | exact ⟨J'.c1, J'⟩ | exact ⟨(J'.alloc _).c1, J'.alloc _⟩ | exact ⟨((J'.put (x := w.heap.size + 2) (Nat.lt_succ_self _) _ _).put (x := w.heap.size + 2) (Nat.lt_succ_self _) _ _).c1, (J'.put (x := w.heap.size + 2) (Nat.lt_succ_self _) _ _).put (x := w.heap.size + 2) (Nat.lt_succ_self _) _ _⟩ | exact ⟨(JN.drew.alloc _).c1, (JN.drew.alloc _)⟩ | exact ⟨JN.drew.c1, JN.drew⟩ | exact ⟨JN.c1, JN⟩)
      (first | (go_at_call 28; (with_reducible refine (HF.out _).mono ?_); rintro e w' ⟨rfl, hb'⟩; have J' := DV.later (by first | assumption | exact And.right (by assumption)) hb'; (try (have K2 := fresh_later hb'; rw [e2] at K2; have K0 := cell_of_row _ _ 0 _ _ _ K2; have K1 := cell_of_row _ _ 1 _ _ _ K2; have F0 := frozen_of_row _ _ 0 _ _ K2; have F1 := frozen_of_row _ _ 1 _ _ K2))))
    all_goals (go_wp2_with fail; go_meet)
    all_goals first | exact ⟨_, rfl, DX.new J' G 33 rfl⟩ | exact ⟨_, rfl, DX.put J' (by omega) G 33 K2⟩
  case rest =>
    obtain ⟨x, rfl, J⟩ := hcut
    clear JN e2
    go_upto_region 2 with fail
    go_cut [6] (fun s6 wy => ∃ y, s6 = .pointer (some ⟨y, 0, none⟩) ∧ DX w w.heap.size h l g x G 33 wy ∧ DY w.heap.size x y D1 D2 wy)
    case first =>
      go_region_held3 (fun w' => w'.cell? ⟨w.heap.size, 2, none⟩ = some (.int .i64 g) ∧ w'.cell? ⟨x, 0, none⟩ = some (.int .i64 G) ∧ w'.cell? ⟨x, 1, none⟩ = some (.func (.func 33) #[] #[]) ∧ DX w w.heap.size h l g x G 33 w') (first | exact ⟨J'.d.c2, J'.x0, J'.x1, J'⟩ | exact ⟨(J'.alloc _).d.c2, (J'.alloc _).x0, (J'.alloc _).x1, J'.alloc _⟩ | exact ⟨((J'.sc K2 _ _).sc K2 _ _).d.c2, ((J'.sc K2 _ _).sc K2 _ _).x0, ((J'.sc K2 _ _).sc K2 _ _).x1, (J'.sc K2 _ _).sc K2 _ _⟩ | exact ⟨(J.alloc _).drew.d.c2, (J.alloc _).drew.x0, (J.alloc _).drew.x1, (J.alloc _).drew⟩ | exact ⟨J.drew.d.c2, J.drew.x0, J.drew.x1, J.drew⟩ | exact ⟨J.d.c2, J.x0, J.x1, J⟩)
        (first
        | (go_at_call 17; (with_reducible refine (HT.out _).mono ?_); rintro e w' ⟨rfl, hb'⟩; (first | (have K2 := DY.new J' hb') | (have K2 := DY.newd J hb') | (have K2 := K2.later hb') | skip); have J' := DX.later (by first | assumption | exact And.right (And.right (And.right (by assumption)))) hb'; (try (obtain ⟨k0, k1, k2, k3⟩ := K2.c)))
        | (go_at_call 25; (with_reducible refine (HS.out _).mono ?_); rintro e w' ⟨rfl, hb'⟩; (first | (have K2 := DY.new J' hb') | (have K2 := DY.newd J hb') | (have K2 := K2.later hb') | skip); have J' := DX.later (by first | assumption | exact And.right (And.right (And.right (by assumption)))) hb'; (try (obtain ⟨k0, k1, k2, k3⟩ := K2.c)))
        | (go_at_call 26; (with_reducible refine (H2.out _).mono ?_); rintro e w' ⟨rfl, hb'⟩; (first | (have K2 := DY.new J' hb') | (have K2 := DY.newd J hb') | (have K2 := K2.later hb') | skip); have J' := DX.later (by first | assumption | exact And.right (And.right (And.right (by assumption)))) hb'; (try (obtain ⟨k0, k1, k2, k3⟩ := K2.c)))
        | (go_at_call 33; (with_reducible refine (HR.out _).mono ?_); rintro e w' ⟨rfl, hb'⟩; (first | (have K2 := DY.new J' hb') | (have K2 := DY.newd J hb') | (have K2 := K2.later hb') | skip); have J' := DX.later (by first | assumption | exact And.right (And.right (And.right (by assumption)))) hb'; (try (obtain ⟨k0, k1, k2, k3⟩ := K2.c)))
        )
      all_goals (go_wp2_with fail; go_meet)
      all_goals first | exact ⟨_, rfl, J'.alloc _, DY.fresh J' D1 D2⟩ | exact ⟨_, rfl, (J'.sc K2 _ _).sc K2 _ _, DY.put K2 D1 D2⟩
    case rest =>
      clear J
      obtain ⟨y, rfl, J, Y⟩ := hcut
      have k0 := J.d.c0
      obtain ⟨k1, k2, -, -⟩ := Y.c
      obtain ⟨k3, k4, k5, k6⟩ := J.d.rc
      have zr : ∀ A B : Value, ((wc.setCell ⟨w.heap.size + 1, 0, none⟩ A).setCell ⟨w.heap.size + 1, 1, none⟩ B).heap[w.heap.size + 1]? = some (.cells #[A, B] 27 (0, 0)) := fun A B => heap_setCell_same _ (w.heap.size + 1) 1 _ _ B (heap_setCell_same wc (w.heap.size + 1) 0 _ _ A J.d.r)
      have hJ := Lib.hid J.d.w
      cases h
      all_goals
        go_wp2_with fail
        refine bodyPost_ret (results_cell_row rfl _ _ (w.heap.size + 1) 27 _ _ _ (by kernel_rfl) (zr _ _) Try.underlying27 rfl (by kernel_rfl)) rfl ?_
        exact ⟨rfl, (hJ.out.setCell (by simp) _).setCell (by simp) _⟩
set_option maxRecDepth 100000 in
set_option maxHeartbeats 4000000 in
theorem deviations3 (h : Bool) (s l g : Int) (w : World) (hs : s ≤ 100000) (l0 : 0 ≤ l) (l1 : l ≤ 9) (hl : 6 ≤ l) (g0 : 5 ≤ g) (g1 : g ≤ 12) :
    Calls Try.prog 19 #[.int .i64 s, .agg #[.bool h, .int .i64 l, .int .i64 g]] w (Ret w (lim (devz h s l g))) := by
  have H0 := letters_c; have H1 := steps_c
  have H2 := Lib.hid (fun W => index_c s W hs)
  have HT := Lib.hid (fun W => tolerance_c s g W hs g0 g1)
  obtain ⟨m, r1⟩ := ix_run s
  have r2 := let_run l0 l1
  have hf : letF l = 34 := by unfold letF; rw [if_neg (by omega), if_neg (by omega)]
  rw [hf] at r2
  have r3 : ∀ (m b : Int) W, (Instr.field 62 (.agg #[.int .i64 m, .int .i64 b]) 1).run Try.prog W = .ok (.int .i64 b) W := fun m b W => rfl
  obtain ⟨tb0, tb1⟩ := tol_bd (s := s) g0 g1
  obtain ⟨sb0, sb1⟩ := sha_bd (s := s) l0 l1
  have HR := Lib.hid (fun W => rule_c (l := l) (tol s g) (sha s l) W (by omega) (by omega) (by omega) (by omega))
  rw [hf] at HR
  have hd3 := dev3_bd (l := l) (show 0 ≤ tol s g by omega) tb1 sb0 sb1
  obtain ⟨V, hV⟩ : ∃ V, stepsV = V := ⟨_, rfl⟩
  obtain ⟨F, hF⟩ : ∃ V, letV = V := ⟨_, rfl⟩
  rw [hV] at H1 r1; rw [hF] at H0 r2
  have HS := Lib.hid H1; have HF := Lib.hid H0
  obtain ⟨a, b⟩ := baS_bd s; obtain ⟨c, d⟩ := shf_bd l0 l1
  obtain ⟨p0, p1⟩ := prod_bd (show 0 ≤ baS s by omega) b c d
  have w1 : IntKind.i64.wrap (baS s * shf l) = baS s * shf l := IntWalk.i64_in _ (by omega)
  have q : baS s * shf l / 10 = sha s l := rfl
  have w3 : IntKind.i64.wrap (sha s l) = sha s l := IntWalk.i64_in _ (by omega)
  unfold devz
  generalize dev3 l (tol s g) (sha s l) = D at *
  obtain ⟨D1, D2⟩ := D
  simp only at hd3
  obtain ⟨⟨x0, x1⟩, x2, x3⟩ := hd3
  have y1 : IntKind.i64.wrap (-D1) = -D1 := IntWalk.i64_in _ (by omega)
  have y2 : IntKind.i64.wrap (-D2) = -D2 := IntWalk.i64_in _ (by omega)
  clear hV hF H0 H1 hs l0 l1 hl hf g0 g1 x0 x1 x2 x3
  generalize tol s g = T at *
  generalize sha s l = S at *
  generalize baS s = B at *
  generalize shf l = G at *
  generalize ixS s = I at *
  obtain ⟨PP, q1⟩ : ∃ v, B * G = v := ⟨_, rfl⟩
  have j1 := w1.trans q1
  rw [q1] at q p0 p1
  clear w1 q1
  have q2 : PP.tdiv 10 = S := by rw [Int.tdiv_eq_ediv_of_nonneg p0]; exact q
  have JN := DV.new w h l g
  go_enter Try.func19, Try.ntmps19
  have e2 : ((w.alloc (.cells #[.bool h, .int .i64 l, .int .i64 g] 32)).alloc (.cells #[.int .i64 0, .int .i64 0] 27)).heap.size = w.heap.size + 1 + 1 := by simp
  go_upto_region 1 with fail
  go_cut [5] (fun s5 wx => ∃ x, s5 = .pointer (some ⟨x, 0, none⟩) ∧ DX w w.heap.size h l g x G 34 wx)
  case first =>
    go_region_held3 (fun w' => w'.cell? ⟨w.heap.size, 1, none⟩ = some (.int .i64 l) ∧ DV w w.heap.size h l g w') (first | exact ⟨J'.c1, J'⟩ | exact ⟨(J'.alloc _).c1, J'.alloc _⟩ | exact ⟨((J'.put (x := w.heap.size + 2) (Nat.lt_succ_self _) _ _).put (x := w.heap.size + 2) (Nat.lt_succ_self _) _ _).c1, (J'.put (x := w.heap.size + 2) (Nat.lt_succ_self _) _ _).put (x := w.heap.size + 2) (Nat.lt_succ_self _) _ _⟩ | exact ⟨(JN.drew.alloc _).c1, (JN.drew.alloc _)⟩ | exact ⟨JN.drew.c1, JN.drew⟩ | exact ⟨JN.c1, JN⟩)
      (first | (go_at_call 28; (with_reducible refine (HF.out _).mono ?_); rintro e w' ⟨rfl, hb'⟩; have J' := DV.later (by first | assumption | exact And.right (by assumption)) hb'; (try (have K2 := fresh_later hb'; rw [e2] at K2; have K0 := cell_of_row _ _ 0 _ _ _ K2; have K1 := cell_of_row _ _ 1 _ _ _ K2; have F0 := frozen_of_row _ _ 0 _ _ K2; have F1 := frozen_of_row _ _ 1 _ _ K2))))
    all_goals (go_wp2_with fail; go_meet)
    all_goals first | exact ⟨_, rfl, DX.new J' G 34 rfl⟩ | exact ⟨_, rfl, DX.put J' (by omega) G 34 K2⟩
  case rest =>
    obtain ⟨x, rfl, J⟩ := hcut
    clear JN e2
    go_upto_region 2 with fail
    go_cut [6] (fun s6 wy => ∃ y, s6 = .pointer (some ⟨y, 0, none⟩) ∧ DX w w.heap.size h l g x G 34 wy ∧ DY w.heap.size x y D1 D2 wy)
    case first =>
      go_region_held3 (fun w' => w'.cell? ⟨w.heap.size, 2, none⟩ = some (.int .i64 g) ∧ w'.cell? ⟨x, 0, none⟩ = some (.int .i64 G) ∧ w'.cell? ⟨x, 1, none⟩ = some (.func (.func 34) #[] #[]) ∧ DX w w.heap.size h l g x G 34 w') (first | exact ⟨J'.d.c2, J'.x0, J'.x1, J'⟩ | exact ⟨(J'.alloc _).d.c2, (J'.alloc _).x0, (J'.alloc _).x1, J'.alloc _⟩ | exact ⟨((J'.sc K2 _ _).sc K2 _ _).d.c2, ((J'.sc K2 _ _).sc K2 _ _).x0, ((J'.sc K2 _ _).sc K2 _ _).x1, (J'.sc K2 _ _).sc K2 _ _⟩ | exact ⟨(J.alloc _).drew.d.c2, (J.alloc _).drew.x0, (J.alloc _).drew.x1, (J.alloc _).drew⟩ | exact ⟨J.drew.d.c2, J.drew.x0, J.drew.x1, J.drew⟩ | exact ⟨J.d.c2, J.x0, J.x1, J⟩)
        (first
        | (go_at_call 17; (with_reducible refine (HT.out _).mono ?_); rintro e w' ⟨rfl, hb'⟩; (first | (have K2 := DY.new J' hb') | (have K2 := DY.newd J hb') | (have K2 := K2.later hb') | skip); have J' := DX.later (by first | assumption | exact And.right (And.right (And.right (by assumption)))) hb'; (try (obtain ⟨k0, k1, k2, k3⟩ := K2.c)))
        | (go_at_call 25; (with_reducible refine (HS.out _).mono ?_); rintro e w' ⟨rfl, hb'⟩; (first | (have K2 := DY.new J' hb') | (have K2 := DY.newd J hb') | (have K2 := K2.later hb') | skip); have J' := DX.later (by first | assumption | exact And.right (And.right (And.right (by assumption)))) hb'; (try (obtain ⟨k0, k1, k2, k3⟩ := K2.c)))
        | (go_at_call 26; (with_reducible refine (H2.out _).mono ?_); rintro e w' ⟨rfl, hb'⟩; (first | (have K2 := DY.new J' hb') | (have K2 := DY.newd J hb') | (have K2 := K2.later hb') | skip); have J' := DX.later (by first | assumption | exact And.right (And.right (And.right (by assumption)))) hb'; (try (obtain ⟨k0, k1, k2, k3⟩ := K2.c)))
        | (go_at_call 34; (with_reducible refine (HR.out _).mono ?_); rintro e w' ⟨rfl, hb'⟩; (first | (have K2 := DY.new J' hb') | (have K2 := DY.newd J hb') | (have K2 := K2.later hb') | skip); have J' := DX.later (by first | assumption | exact And.right (And.right (And.right (by assumption)))) hb'; (try (obtain ⟨k0, k1, k2, k3⟩ := K2.c)))
        )
      all_goals (go_wp2_with fail; go_meet)
      all_goals first | exact ⟨_, rfl, J'.alloc _, DY.fresh J' D1 D2⟩ | exact ⟨_, rfl, (J'.sc K2 _ _).sc K2 _ _, DY.put K2 D1 D2⟩
    case rest =>
      clear J
      obtain ⟨y, rfl, J, Y⟩ := hcut
      have k0 := J.d.c0
      obtain ⟨k1, k2, -, -⟩ := Y.c
      obtain ⟨k3, k4, k5, k6⟩ := J.d.rc
      have zr : ∀ A B : Value, ((wc.setCell ⟨w.heap.size + 1, 0, none⟩ A).setCell ⟨w.heap.size + 1, 1, none⟩ B).heap[w.heap.size + 1]? = some (.cells #[A, B] 27 (0, 0)) := fun A B => heap_setCell_same _ (w.heap.size + 1) 1 _ _ B (heap_setCell_same wc (w.heap.size + 1) 0 _ _ A J.d.r)
      have hJ := Lib.hid J.d.w
      cases h
      all_goals
        go_wp2_with fail
        refine bodyPost_ret (results_cell_row rfl _ _ (w.heap.size + 1) 27 _ _ _ (by kernel_rfl) (zr _ _) Try.underlying27 rfl (by kernel_rfl)) rfl ?_
        exact ⟨rfl, (hJ.out.setCell (by simp) _).setCell (by simp) _⟩
theorem deviations_c (h : Bool) (s l g : Int) (w : World) (hs : s ≤ 100000) (l0 : 0 ≤ l) (l1 : l ≤ 9) (g0 : 5 ≤ g) (g1 : g ≤ 12) :
    Calls Try.prog 19 #[.int .i64 s, .agg #[.bool h, .int .i64 l, .int .i64 g]] w (Ret w (lim (devz h s l g))) := by
  by_cases h1 : l ≤ 4
  · exact deviations1 h s l g w hs l0 l1 h1 g0 g1
  · by_cases h2 : l = 5
    · exact deviations2 h s l g w hs l0 l1 h2 g0 g1
    · exact deviations3 h s l g w hs l0 l1 (by omega) g0 g1
end Go.Proofs.Wk
