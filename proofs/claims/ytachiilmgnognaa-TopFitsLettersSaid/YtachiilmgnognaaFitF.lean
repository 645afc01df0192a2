/- FITS: what the reference gives. -/
import Derived.Test.YtachiilmgnognaaFitE
namespace Go.Proofs.Wk
open Go.RowKit

/-- The numbers of the errors. -/
def szE (s : Int) : Int := if s < 1 ∨ 100000 < s then 2 else 0
def ckE (l g : Int) : Int := if l < 0 ∨ 9 < l then 1 else if g < 5 ∨ 12 < g then 2 else 0
set_option maxRecDepth 100000 in
theorem Size_c (s : Int) (w : World) : Calls Try.prog 20 #[.int .i64 s] w (Ret w (.int .i64 (szE s))) := by
  have key : ∀ b1 b2 : Bool, decide (s < 1) = b1 → decide (100000 < s) = b2 → szE s = (if b1 || b2 then 2 else 0) := by
    rintro b1 b2 rfl rfl; unfold szE; simp
  obtain ⟨b1, e1⟩ : ∃ b, decide (s < 1) = b := ⟨_, rfl⟩
  obtain ⟨b2, e2⟩ : ∃ b, decide (100000 < s) = b := ⟨_, rfl⟩
  rw [key b1 b2 e1 e2]
  clear key
  cases b1 <;> cases b2
  all_goals
    go_enter Try.func20, Try.ntmps20
    go_wp2
    go_ret
    exact ⟨rfl, Below.refl _ _⟩
set_option maxRecDepth 100000 in
theorem rCheck_c (h : Bool) (l g : Int) (w : World) : Calls Try.prog 21 #[.agg #[.bool h, .int .i64 l, .int .i64 g]] w (Ret w (.int .i64 (ckE l g))) := by
  have key : ∀ b1 b2 b3 b4 : Bool, decide (l < 0) = b1 → decide (9 < l) = b2 → decide (g < 5) = b3 → decide (12 < g) = b4 → ckE l g = (if b1 || b2 then 1 else if b3 || b4 then 2 else 0) := by
    rintro b1 b2 b3 b4 rfl rfl rfl rfl; unfold ckE; simp
  obtain ⟨b1, e1⟩ : ∃ b, decide (l < 0) = b := ⟨_, rfl⟩
  obtain ⟨b2, e2⟩ : ∃ b, decide (9 < l) = b := ⟨_, rfl⟩
  obtain ⟨b3, e3⟩ : ∃ b, decide (g < 5) = b := ⟨_, rfl⟩
  obtain ⟨b4, e4⟩ : ∃ b, decide (12 < g) = b := ⟨_, rfl⟩
  rw [key b1 b2 b3 b4 e1 e2 e3 e4]
  have hB : Below w.heap.size w (w.alloc (.cells #[.bool h, .int .i64 l, .int .i64 g] 41)) := (Below.refl _ _).alloc (Nat.le_refl _) _
  clear key
  cases b1 <;> cases b2 <;> cases b3 <;> cases b4
  all_goals
    go_enter Try.func21, Try.ntmps21
    go_wp2
    go_ret
    exact ⟨rfl, hB⟩
theorem mo_ix {s : Int} {i : Nat} (hi : i < 7) : mo i < s ↔ (i : Int) < ixS s := by
  have : i = 0 ∨ i = 1 ∨ i = 2 ∨ i = 3 ∨ i = 4 ∨ i = 5 ∨ i = 6 := by omega
  unfold ixS
  rcases this with rfl | rfl | rfl | rfl | rfl | rfl | rfl <;> simp only [mo, List.getD_cons_zero, List.getD_cons_succ] <;> (repeat' split) <;> omega
abbrev endsR : Array Value := #[.int .i64 3000, .int .i64 6000, .int .i64 10000, .int .i64 18000, .int .i64 30000, .int .i64 50000, .int .i64 80000]
theorem ends_cell {w : World} {b : Nat} {T : TypeId} (hR : w.heap[b]? = some (.cells endsR T (0, 0))) {i : Nat} (hi : i < 7) : w.cell? ⟨b, i, none⟩ = some (.int .i64 (mo i)) := by
  have : i = 0 ∨ i = 1 ∨ i = 2 ∨ i = 3 ∨ i = 4 ∨ i = 5 ∨ i = 6 := by omega
  rcases this with rfl | rfl | rfl | rfl | rfl | rfl | rfl <;> (rw [cell_of_row _ _ _ _ _ _ hR]; rfl)
set_option maxRecDepth 100000 in
set_option maxHeartbeats 1000000 in
theorem At_c (s : Int) (w : World) : Calls Try.prog 39 #[.int .i64 s] w (Ret w (.int .i64 (ixS s))) := by
  have hB : Below w.heap.size w (w.alloc (.cells endsR 3)) := (Below.refl _ _).alloc (Nat.le_refl _) _
  have hR : (w.alloc (.cells endsR 3)).heap[w.heap.size]? = some (.cells endsR 3 (0, 0)) := heap_alloc_new _ _
  obtain ⟨x0, x1⟩ := ixS_bd s
  have HR := Lib.hid hR
  clear hR
  go_enter Try.func39, Try.ntmps39
  go_wp2_with fail
  go_loopw [4, 5] (fun sn si wr => ∃ i : Nat, si = .int .i64 (i : Int) ∧ i ≤ 7 ∧ sn = .int .i64 (min (i : Int) (ixS s)) ∧ wr = w.alloc (.cells endsR 3)) (fun _ si _ => 7 - (intOf si).toNat)
  case atStart => exact ⟨0, rfl, by omega, by rw [show min ((0 : Nat) : Int) (ixS s) = 0 by omega], rfl⟩
  case round =>
    obtain ⟨i, rfl, hi, rfl, rfl⟩ := hrel
    by_cases hlt : i < 7
    · have k1 := ends_cell HR.out hlt
      have k2 := mo_ix (s := s) hlt
      by_cases hs : (i : Int) < ixS s
      · have k3 : decide (mo i < s) = true := decide_eq_true (k2.2 hs)
        have k4 : min (i : Int) (ixS s) = i := by omega
        have k5 : min ((i + 1 : Nat) : Int) (ixS s) = (i + 1 : Nat) := by omega
        rw [k4]
        clear k2 k4 hs
        generalize mo i = m at *
        go_wp2
        go_roundw
        case rel => exact ⟨i + 1, by go_num, by omega, by rw [k5]; go_num, trivial⟩
        case measure => simp [intOf]; omega
      · have k3 : decide (mo i < s) = false := decide_eq_false (fun h => hs (k2.1 h))
        have k4 : min (i : Int) (ixS s) = ixS s := by omega
        have k5 : min ((i + 1 : Nat) : Int) (ixS s) = ixS s := by omega
        rw [k4]
        clear k2 k4 hs
        generalize mo i = m at *
        generalize ixS s = I at *
        go_wp2
        go_roundw
        case rel => exact ⟨i + 1, by go_num, by omega, by rw [k5], trivial⟩
        case measure => simp [intOf]; omega
    · obtain rfl : i = 7 := by omega
      rw [show min ((7 : Nat) : Int) (ixS s) = ixS s by omega]
      generalize ixS s = I at *
      go_wp2
      go_ret
      exact ⟨rfl, hB⟩
abbrev baseR : Array Value := #[.int .i64 6, .int .i64 8, .int .i64 9, .int .i64 11, .int .i64 13, .int .i64 16, .int .i64 19, .int .i64 22]
theorem base_cell {w : World} {b : Nat} {T : TypeId} (hR : w.heap[b]? = some (.cells baseR T (0, 0))) (s : Int) : w.cell? ⟨b, (ixS s).toNat, none⟩ = some (.int .i64 (baS s)) := by
  rw [cell_of_row _ _ _ _ _ _ hR]
  unfold ixS baS
  repeat' split
  all_goals rfl
set_option maxRecDepth 100000 in
theorem Base_c (s : Int) (w : World) : Calls Try.prog 38 #[.int .i64 s] w (Ret w (.int .i64 (baS s))) := by
  have hB : Below w.heap.size w (w.alloc (.cells baseR 3)) := (Below.refl _ _).alloc (Nat.le_refl _) _
  obtain ⟨x0, x1⟩ := ixS_bd s
  have H := Lib.hid (fun W => At_c s W)
  have key : ∀ w1 : World, Below (w.alloc (.cells baseR 3)).heap.size (w.alloc (.cells baseR 3)) w1 → w1.cell? ⟨w.heap.size, (ixS s).toNat, none⟩ = some (.int .i64 (baS s)) := fun w1 hb =>
    base_cell ((hb.block _ (alloc_lt _ _)).trans (heap_alloc_new _ _)) s
  have KEY := Lib.hid key
  clear key
  obtain ⟨I, hI⟩ : ∃ I : Nat, ixS s = (I : Int) := ⟨(ixS s).toNat, by omega⟩
  rw [hI] at H KEY x0 x1
  have hlt : I < 8 := by omega
  rw [Int.toNat_natCast] at KEY
  clear hI x0 x1
  generalize baS s = B at *
  go_enter Try.func38, Try.ntmps38
  go_wp2_with fail
  ((with_reducible refine (H.out _).mono ?_); rintro e w1 ⟨rfl, hb1⟩)
  have k1 := KEY.out w1 hb1
  have hB1 := hB.trans (hb1.mono hB.size)
  go_wp2
  go_ret
  exact ⟨rfl, hB1⟩
abbrev facR : Array Value := #[.int .i64 7, .int .i64 10, .int .i64 16, .int .i64 25, .int .i64 40, .int .i64 64, .int .i64 100, .int .i64 160]
theorem fac_cell {w : World} {b : Nat} {T : TypeId} (hR : w.heap[b]? = some (.cells facR T (0, 0))) {g : Int} (h0 : 5 ≤ g) (h1 : g ≤ 12) : w.cell? ⟨b, (g - 5).toNat, none⟩ = some (.int .i64 (fac g)) := by
  rw [cell_of_row _ _ _ _ _ _ hR]
  have : g = 5 ∨ g = 6 ∨ g = 7 ∨ g = 8 ∨ g = 9 ∨ g = 10 ∨ g = 11 ∨ g = 12 := by omega
  rcases this with rfl | rfl | rfl | rfl | rfl | rfl | rfl | rfl <;> rfl
abbrev shfR : Array Value := #[.int .i64 50, .int .i64 31, .int .i64 16, .int .i64 6, .int .i64 0, .int .i64 0, .int .i64 2, .int .i64 9, .int .i64 15, .int .i64 22]
theorem shf_cell {w : World} {b : Nat} {T : TypeId} (hR : w.heap[b]? = some (.cells shfR T (0, 0))) {l : Int} (h0 : 0 ≤ l) (h1 : l ≤ 9) : w.cell? ⟨b, l.toNat, none⟩ = some (.int .i64 (shf l)) := by
  rw [cell_of_row _ _ _ _ _ _ hR]
  have : l = 0 ∨ l = 1 ∨ l = 2 ∨ l = 3 ∨ l = 4 ∨ l = 5 ∨ l = 6 ∨ l = 7 ∨ l = 8 ∨ l = 9 := by omega
  rcases this with rfl | rfl | rfl | rfl | rfl | rfl | rfl | rfl | rfl | rfl <;> rfl
theorem fresh_later2 {w w' : World} {o : Obj} (h : Below (w.alloc o).heap.size (w.alloc o) w') : w'.heap[w.heap.size]? = some o := (h.block _ (alloc_lt w o)).trans (heap_alloc_new w o)
set_option maxRecDepth 100000 in
set_option maxHeartbeats 2000000 in
theorem Wide_c (s g : Int) (w : World) (g0 : 5 ≤ g) (g1 : g ≤ 12) : Calls Try.prog 37 #[.int .i64 s, .int .i64 g] w (Ret w (.int .i64 (tol s g))) := by
  have HB := Lib.hid (fun W => Base_c s W)
  have KEY := Lib.hid (fun (W : World) (h : W.heap[w.heap.size]? = some (.cells facR 3 (0, 0))) => fac_cell h g0 g1)
  have kk : ∀ W : World, (W.alloc (.cells facR 3)).cell? ⟨W.heap.size, (g - 5).toNat, none⟩ = some (.int .i64 (fac g)) := fun W => fac_cell (heap_alloc_new W _) g0 g1
  obtain ⟨a, b⟩ := baS_bd s; obtain ⟨c, d⟩ := fac_bd g0 g1
  have hp := prod_bd (show 0 ≤ baS s by omega) b (show 0 ≤ fac g by omega) d
  obtain ⟨p0, p1⟩ := hp
  have w0 : IntKind.i64.wrap (g - 5) = g - 5 := IntWalk.i64_in _ (by omega)
  have w1 : IntKind.i64.wrap (baS s * fac g) = baS s * fac g := IntWalk.i64_in _ (by omega)
  have w2 : IntKind.i64.wrap (baS s * fac g + 5) = baS s * fac g + 5 := IntWalk.i64_in _ (by omega)
  have q : (baS s * fac g + 5).tdiv 10 = tol s g := by rw [Int.tdiv_eq_ediv_of_nonneg (by omega)]; rfl
  have w3 : IntKind.i64.wrap (tol s g) = tol s g := IntWalk.i64_in _ (by have := tol_bd (s := s) g0 g1; omega)
  obtain ⟨N, hN⟩ : ∃ N : Nat, g - 5 = (N : Int) := ⟨(g - 5).toNat, by omega⟩
  have hlt : (N : Int) < 8 := by omega
  have hlt0 : (0 : Int) ≤ (N : Int) := by omega
  have hlt2 : N < 8 := by omega
  rw [hN, Int.toNat_natCast] at KEY kk
  rw [hN] at w0
  have j0 : IntKind.i64.wrap (g - 5) = (N : Int) := by rw [hN]; exact w0
  clear hN w0 g0 g1
  generalize tol s g = T at *
  generalize baS s = B at *
  generalize fac g = G at *
  obtain ⟨PP, q1⟩ : ∃ v, B * G = v := ⟨_, rfl⟩
  have j1 := w1.trans q1
  rw [q1] at w2 q p0 p1
  clear w1 q1
  go_enter Try.func37, Try.ntmps37
  go_wp2_with fail
  go_region_with (first | (go_at_call 38; (with_reducible refine (HB.out _).mono ?_); rintro e w' ⟨rfl, hb'⟩; (first | have K := KEY.out w' (fresh_later hb') | skip)))
  all_goals
    go_wp2
    go_ret
    first
      | exact ⟨rfl, ((Below.refl w.heap.size w).drew.trans hb').alloc hb'.size _⟩
      | exact ⟨rfl, (((Below.refl w.heap.size w).alloc (Nat.le_refl _) _).drew).trans (hb'.mono (Nat.le_of_lt (alloc_lt w _)))⟩
/-- The result's block. -/
structure OB (w0 : World) (b : Nat) (A B : Int) (w : World) : Prop where
  r : w.heap[b]? = some (.cells #[.int .i64 A, .int .i64 B] 27 (0, 0))
  w : Below w0.heap.size w0 w
  s : w0.heap.size ≤ b
theorem OB.later {w0 : World} {b : Nat} {A B : Int} {w w' : World} (j : OB w0 b A B w) (hb : Below w.heap.size w w') : OB w0 b A B w' :=
  ⟨by rw [hb.block b (Array.getElem?_eq_some_iff.1 j.r).1]; exact j.r, j.w.trans (hb.mono j.w.size), j.s⟩
theorem OB.alloc {w0 : World} {b : Nat} {A B : Int} {w : World} (j : OB w0 b A B w) (o : Obj) : OB w0 b A B (w.alloc o) := j.later ((Below.refl _ _).alloc (Nat.le_refl _) o)
theorem OB.drew {w0 : World} {b : Nat} {A B : Int} {w : World} (j : OB w0 b A B w) : OB w0 b A B w.drew := j.later (Below.refl _ _).drew
theorem OB.rc {w0 : World} {b : Nat} {A B : Int} {w : World} (j : OB w0 b A B w) : w.cell? ⟨b, 0, none⟩ = some (.int .i64 A) ∧ w.cell? ⟨b, 1, none⟩ = some (.int .i64 B) ∧ w.frozen? ⟨b, 0, none⟩ = false ∧ w.frozen? ⟨b, 1, none⟩ = false :=
  ⟨by rw [cell_of_row _ _ _ _ _ _ j.r]; rfl, by rw [cell_of_row _ _ _ _ _ _ j.r]; rfl, frozen_of_row _ _ _ _ _ j.r, frozen_of_row _ _ _ _ _ j.r⟩
theorem OB.put {w0 : World} {b : Nat} {A B : Int} {w : World} (j : OB w0 b A B w) (A' B' : Int) : OB w0 b A' B' ((w.setCell ⟨b, 0, none⟩ (.int .i64 A')).setCell ⟨b, 1, none⟩ (.int .i64 B')) :=
  ⟨heap_setCell_same _ b 1 _ _ _ (heap_setCell_same w b 0 _ _ (.int .i64 A') j.r), (j.w.setCell j.s _).setCell j.s _, j.s⟩
theorem OB.new (w0 : World) : OB w0 w0.heap.size 0 0 (w0.alloc (.cells #[.int .i64 0, .int .i64 0] 27)) := ⟨heap_alloc_new w0 _, (Below.refl _ _).alloc (Nat.le_refl _) _, Nat.le_refl _⟩
set_option maxRecDepth 100000 in
set_option maxHeartbeats 2000000 in
theorem shaft_c (s l g : Int) (w : World) (l0 : 0 ≤ l) (l1 : l ≤ 9) (g0 : 5 ≤ g) (g1 : g ≤ 12) : Calls Try.prog 36 #[.int .i64 s, .int .i64 l, .int .i64 g] w (Ret w (lim (dev3 l (tol s g) (sha s l)))) := by
  have HW := Lib.hid (fun W => Wide_c s g W g0 g1)
  have HB := Lib.hid (fun W => Base_c s W)
  have KEY := Lib.hid (fun (V W : World) (h : W.heap[V.heap.size]? = some (.cells shfR 3 (0, 0))) => shf_cell h l0 l1)
  have kk : ∀ W : World, (W.alloc (.cells shfR 3)).cell? ⟨W.heap.size, l.toNat, none⟩ = some (.int .i64 (shf l)) := fun W => shf_cell (heap_alloc_new W _) l0 l1
  obtain ⟨tb0, tb1⟩ := tol_bd (s := s) g0 g1
  obtain ⟨sb0, sb1⟩ := sha_bd (s := s) l0 l1
  obtain ⟨a, b⟩ := baS_bd s; obtain ⟨c, d⟩ := shf_bd l0 l1
  obtain ⟨p0, p1⟩ := prod_bd (show 0 ≤ baS s by omega) b c d
  have w1 : IntKind.i64.wrap (baS s * shf l) = baS s * shf l := IntWalk.i64_in _ (by omega)
  have q : baS s * shf l / 10 = sha s l := rfl
  have w3 : IntKind.i64.wrap (sha s l) = sha s l := IntWalk.i64_in _ (by omega)
  obtain ⟨N, hN⟩ : ∃ N : Nat, l = (N : Int) := ⟨l.toNat, by omega⟩
  have hlt : (N : Int) < 10 := by omega
  have hlt0 : (0 : Int) ≤ (N : Int) := by omega
  have hlt2 : N < 10 := by omega
  have hl3 : dev3 l (tol s g) (sha s l) = if l ≤ 4 then (-(sha s l) - tol s g, -(sha s l)) else if l = 5 then (-(tol s g / 2), tol s g / 2) else (sha s l, sha s l + tol s g) := rfl
  rw [hl3]
  clear hl3 l0 l1 g0 g1
  have JN := OB.new w
  have v1 : IntKind.i64.wrap (-sha s l) = -sha s l := IntWalk.i64_in _ (by omega)
  have v2 : IntKind.i64.wrap (-sha s l - tol s g) = -sha s l - tol s g := IntWalk.i64_in _ (by omega)
  have v3 : IntKind.i64.wrap (sha s l + tol s g) = sha s l + tol s g := IntWalk.i64_in _ (by omega)
  have v4 : (tol s g).tdiv 2 = tol s g / 2 := Int.tdiv_eq_ediv_of_nonneg (by omega)
  have v5 : IntKind.i64.wrap (tol s g / 2) = tol s g / 2 := IntWalk.i64_in _ (by omega)
  have v6 : IntKind.i64.wrap (-(tol s g / 2)) = -(tol s g / 2) := IntWalk.i64_in _ (by omega)
  generalize tol s g = T at *
  generalize sha s l = S at *
  generalize baS s = B at *
  generalize shf l = G at *
  subst hN
  rw [Int.toNat_natCast] at KEY kk
  obtain ⟨PP, q1⟩ : ∃ v, B * G = v := ⟨_, rfl⟩
  have j1 := w1.trans q1
  rw [q1] at q p0 p1
  clear w1 q1
  have q2 : PP.tdiv 10 = S := by rw [Int.tdiv_eq_ediv_of_nonneg p0]; exact q
  obtain ⟨b5, e5⟩ : ∃ b, ((N : Int) == 5) = b := ⟨_, rfl⟩
  obtain ⟨b4, e4⟩ : ∃ b, decide ((N : Int) < 5) = b := ⟨_, rfl⟩
  have key : (if (N : Int) ≤ 4 then (-S - T, -S) else if (N : Int) = 5 then (-(T / 2), T / 2) else (S, S + T)) = if b5 then (-(T / 2), T / 2) else if b4 then (-S - T, -S) else (S, S + T) := by
    subst e5 e4; by_cases h : (N : Int) ≤ 4
    · rw [if_pos h, show ((N : Int) == 5) = false from beq_eq_false_iff_ne.2 (by omega), decide_eq_true (by omega)]; rfl
    · rw [if_neg h]
      by_cases h5 : (N : Int) = 5
      · rw [if_pos h5, show ((N : Int) == 5) = true from beq_iff_eq.2 h5]; rfl
      · rw [if_neg h5, show ((N : Int) == 5) = false from beq_eq_false_iff_ne.2 h5, decide_eq_false (by omega)]; rfl
  rw [key]
  obtain ⟨D, hD⟩ : ∃ D : Int × Int, (if b5 then (-(T / 2), T / 2) else if b4 then (-S - T, -S) else (S, S + T)) = D := ⟨_, rfl⟩
  rw [hD]
  have HD := Lib.hid hD
  clear hD
  clear key q tb0 tb1 sb0 sb1 a b c d
  go_enter Try.func36, Try.ntmps36
  go_wp2_with fail
  ((with_reducible refine (HW.out _).mono ?_); rintro e w1 ⟨rfl, hb1⟩)
  have J := JN.later hb1
  clear JN hb1
  go_upto_region 2 with fail
  go_cut [8] (fun s8 wx => s8 = .int .i64 S ∧ OB w w.heap.size 0 0 wx)
  case first =>
    go_region_with (first | (go_at_call 38; (with_reducible refine (HB.out _).mono ?_); rintro e w' ⟨rfl, hb'⟩; (first | have K := KEY.out _ w' (fresh_later hb') | skip)))
    all_goals (go_wp2_with fail; go_meet)
    all_goals first | exact ⟨rfl, (J.drew.later hb').alloc _⟩ | exact ⟨rfl, (J.alloc _).drew.later hb'⟩
  case rest =>
    obtain ⟨rfl, J⟩ := hcut
    obtain ⟨k3, k4, k5, k6⟩ := J.rc
    have J5 := J.put (-(T / 2)) (T / 2)
    have J4 := J.put (-S - T) (-S)
    have J6 := J.put S (S + T)
    have hD := HD.out
    clear HD
    cases b5 <;> cases b4
    all_goals
      simp only [if_true, Bool.false_eq_true, if_false] at hD
      subst hD
      go_wp2
      first
      | (refine bodyPost_ret (results_cell_row rfl _ _ w.heap.size 27 _ _ _ (by kernel_rfl) J5.r Try.underlying27 rfl (by kernel_rfl)) rfl ?_; exact ⟨rfl, J5.w⟩)
      | (refine bodyPost_ret (results_cell_row rfl _ _ w.heap.size 27 _ _ _ (by kernel_rfl) J4.r Try.underlying27 rfl (by kernel_rfl)) rfl ?_; exact ⟨rfl, J4.w⟩)
      | (refine bodyPost_ret (results_cell_row rfl _ _ w.heap.size 27 _ _ _ (by kernel_rfl) J6.r Try.underlying27 rfl (by kernel_rfl)) rfl ?_; exact ⟨rfl, J6.w⟩)
end Go.Proofs.Wk
