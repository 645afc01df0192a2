/- RINGS: sums; the square of a distance. -/
import Derived.Test.YtcdjhgkeehhaaaaGreatDoorUE
import Derived.Laws.ResultCell
import Derived.Sort.CutIn
namespace Go.Proofs.Wk
open Go.RowKit Mt

def RnS (w : World) (g : Nat) : Prop := w.heap[g]? = some (.cells #[.int .i64 0] 102 (0, 0))
theorem RnS.later {w w' : World} {g : Nat} (h : RnS w g) (hb : Below w.heap.size w w') : RnS w' g := keepB h hb
set_option maxRecDepth 100000 in
set_option maxHeartbeats 2000000 in
theorem rof_c (a : Txt) (g : Nat) (w : World) (h : RnS w g) : Calls Tryz.prog 82 #[.pointer (some ⟨g, 0, none⟩), .string ⟨a.toArray⟩, .int .i64 0] w (Ret w (.string ⟨a.toArray⟩)) := by
  have hw := Lib.hid (bel_same (Below.refl w.heap.size w) h)
  have c0 := one_cell h
  have hf := frozen_of_row w g 0 _ _ h
  clear h
  go_enter Tryz.func82, Tryz.ntmps82
  go_wp2
  go_ret
  exact ⟨rfl, hw.out⟩
set_option maxRecDepth 100000 in
set_option maxHeartbeats 2000000 in
theorem rsub_c {p q : Rat} {j k : Nat} (hp : szQ p j) (hq : szQ q k) (hk : j + k < 1024) (g : Nat) (w : World) (hg : Good w) (h : RnS w g) : Calls Tryz.prog 45 #[.pointer (some ⟨g, 0, none⟩), Value.string ⟨(rtoa p).toArray⟩, Value.string ⟨(rtoa q).toArray⟩] w (Ret w ((Value.string ⟨(rtoa (p - q)).toArray⟩))) := by
  have H1 := Lib.hid (lsub_c hp hq hk w hg)
  have H2 := Lib.hid (fun a W (k : Below w.heap.size w W) => rof_c a g W (h.later k))
  clear h hg hp hq hk
  generalize p - q = r at *
  go_enter Tryz.func45, Tryz.ntmps45
  go_wp2_with fail
  ((with_reducible refine H1.out.mono ?_); rintro e w1 ⟨rfl, hb1⟩)
  go_wp2_with fail
  ((with_reducible refine (H2.out _ _ hb1).mono ?_); rintro e w2 ⟨rfl, hb2⟩)
  have hb := hb1.nxt hb2
  clear hb1 hb2 H1 H2
  go_wp2
  go_ret
  exact ⟨rfl, hb⟩
set_option maxRecDepth 100000 in
set_option maxHeartbeats 2000000 in
theorem radd_c {p q : Rat} {j k : Nat} (hp : szQ p j) (hq : szQ q k) (hk : j + k < 1024) (g : Nat) (w : World) (hg : Good w) (h : RnS w g) : Calls Tryz.prog 113 #[.pointer (some ⟨g, 0, none⟩), Value.string ⟨(rtoa p).toArray⟩, Value.string ⟨(rtoa q).toArray⟩] w (Ret w ((Value.string ⟨(rtoa (p + q)).toArray⟩))) := by
  have H1 := Lib.hid (ladd_c hp hq hk w hg)
  have H2 := Lib.hid (fun a W (k : Below w.heap.size w W) => rof_c a g W (h.later k))
  clear h hg hp hq hk
  generalize p + q = r at *
  go_enter Tryz.func113, Tryz.ntmps113
  go_wp2_with fail
  ((with_reducible refine H1.out.mono ?_); rintro e w1 ⟨rfl, hb1⟩)
  go_wp2_with fail
  ((with_reducible refine (H2.out _ _ hb1).mono ?_); rintro e w2 ⟨rfl, hb2⟩)
  have hb := hb1.nxt hb2
  clear hb1 hb2 H1 H2
  go_wp2
  go_ret
  exact ⟨rfl, hb⟩
set_option maxRecDepth 100000 in
set_option maxHeartbeats 2000000 in
theorem rmul_c {p q : Rat} {j k : Nat} (hp : szQ p j) (hq : szQ q k) (hk : j + k ≤ 1024) (g : Nat) (w : World) (hg : Good w) (h : RnS w g) : Calls Tryz.prog 114 #[.pointer (some ⟨g, 0, none⟩), Value.string ⟨(rtoa p).toArray⟩, Value.string ⟨(rtoa q).toArray⟩] w (Ret w ((Value.string ⟨(rtoa (p * q)).toArray⟩))) := by
  have H1 := Lib.hid (lmul_c hp hq hk w hg)
  have H2 := Lib.hid (fun a W (k : Below w.heap.size w W) => rof_c a g W (h.later k))
  clear h hg hp hq hk
  generalize p * q = r at *
  go_enter Tryz.func114, Tryz.ntmps114
  go_wp2_with fail
  ((with_reducible refine H1.out.mono ?_); rintro e w1 ⟨rfl, hb1⟩)
  go_wp2_with fail
  ((with_reducible refine (H2.out _ _ hb1).mono ?_); rintro e w2 ⟨rfl, hb2⟩)
  have hb := hb1.nxt hb2
  clear hb1 hb2 H1 H2
  go_wp2
  go_ret
  exact ⟨rfl, hb⟩
set_option maxRecDepth 100000 in
set_option maxHeartbeats 2000000 in
theorem rless_c {p q : Rat} {j k : Nat} (hp : szQ p j) (hq : szQ q k) (hk : j + k ≤ 1024) (g : Nat) (w : World) (hg : Good w) (h : RnS w g) : Calls Tryz.prog 84 #[.pointer (some ⟨g, 0, none⟩), Value.string ⟨(rtoa p).toArray⟩, Value.string ⟨(rtoa q).toArray⟩] w (Ret w (.bool (decide (cmpQ p q < 0)))) := by
  have H1 := Lib.hid (lcmp_c hp hq hk w hg)
  have H2 := Lib.hid (fun W (k : Below w.heap.size w W) => rof_c [48] g W (h.later k))
  clear h hg hp hq hk
  generalize cmpQ p q = s at *
  go_enter Tryz.func84, Tryz.ntmps84
  go_wp2_with fail
  ((with_reducible refine H1.out.mono ?_); rintro e w1 ⟨rfl, hb1⟩)
  go_wp2_with fail
  ((with_reducible refine (H2.out _ hb1).mono ?_); rintro e w2 ⟨rfl, hb2⟩)
  have hb := hb1.nxt hb2
  clear hb1 hb2 H1 H2
  go_wp2
  go_ret
  exact ⟨rfl, hb⟩
end Go.Proofs.Wk
/- RINGS: the square of a distance. -/
namespace Go.Proofs.Wk
open Go.RowKit Mt

theorem rtoa_whl (n : Int) : rtoa (n : Rat) = Lib.itoa n := by unfold rtoa; exact if_pos rfl
theorem lwh_c (m : Int) (w : World) (hg : Good w) (m0 : -1000 ≤ m) (m1 : m ≤ 1000) : Calls Tryz.prog 81 #[.int .i64 m] w (Ret w ((Value.string ⟨(rtoa (m : Rat)).toArray⟩))) := by
  have := qWhole_c m w hg (by omega) (by omega)
  rwa [← rtoa_whl] at this
/-- A point whose square distance is small. -/
structure SqO (x y : Int) (a b : Rat) : Prop where
  x0 : -1000 ≤ x ∧ x ≤ 1000
  y0 : -1000 ≤ y ∧ y ≤ 1000
  sx : Lp.sm (x : Rat) = true
  sy : Lp.sm (y : Rat) = true
  sa : Lp.sm a = true
  sb : Lp.sm b = true
  dx : Lp.sm ((x : Rat) - a) = true
  dy : Lp.sm ((y : Rat) - b) = true
  qx : Lp.sm (((x : Rat) - a) * ((x : Rat) - a)) = true
  qy : Lp.sm (((y : Rat) - b) * ((y : Rat) - b)) = true
def sqQ (x y : Int) (a b : Rat) : Rat := ((x : Rat) - a) * ((x : Rat) - a) + ((y : Rat) - b) * ((y : Rat) - b)
theorem bx22 (W : World) (x y z u : Value) (T U : TypeId) : Below W.heap.size W ((W.alloc (.cells #[x, y] T)).alloc (.cells #[z, u] U)) ∧
    (((W.alloc (.cells #[x, y] T)).alloc (.cells #[z, u] U)).cell? ⟨W.heap.size, 0, none⟩ = some x ∧ ((W.alloc (.cells #[x, y] T)).alloc (.cells #[z, u] U)).cell? ⟨W.heap.size, 1, none⟩ = some y ∧
    ((W.alloc (.cells #[x, y] T)).alloc (.cells #[z, u] U)).cell? ⟨W.heap.size + 1, 0, none⟩ = some z ∧ ((W.alloc (.cells #[x, y] T)).alloc (.cells #[z, u] U)).cell? ⟨W.heap.size + 1, 1, none⟩ = some u) := by
  have h1 := heap_alloc_new W (.cells #[x, y] T)
  have b1 := lal W (.cells #[x, y] T)
  have s1 : (W.alloc (.cells #[x, y] T)).heap.size = W.heap.size + 1 := by simp
  generalize W.alloc (.cells #[x, y] T) = W1 at *
  have h2 := heap_alloc_new W1 (.cells #[z, u] U)
  have b2 := lal W1 (.cells #[z, u] U)
  rw [s1] at h2
  have h1 := keepB h1 b2
  generalize W1.alloc (.cells #[z, u] U) = W2 at *
  exact ⟨b1.nxt b2, by rw [cell_of_row _ _ _ _ _ _ h1]; rfl, by rw [cell_of_row _ _ _ _ _ _ h1]; rfl, by rw [cell_of_row _ _ _ _ _ _ h2]; rfl, by rw [cell_of_row _ _ _ _ _ _ h2]; rfl⟩
set_option maxRecDepth 100000 in
set_option linter.unusedSimpArgs false in
set_option maxHeartbeats 4000000 in
theorem squareR_c {x y : Int} {a b : Rat} (ho : SqO x y a b) (g : Nat) (w : World) (hg : Good w) (h : RnS w g) : Calls Tryz.prog 83 #[.pointer (some ⟨g, 0, none⟩), .agg #[.int .i64 x, .int .i64 y], .agg #[Value.string ⟨(rtoa a).toArray⟩, Value.string ⟨(rtoa b).toArray⟩]] w (Ret w ((Value.string ⟨(rtoa (sqQ x y a b)).toArray⟩))) := by
  have HX := Lib.hid (fun W (k : Below w.heap.size w W) => lwh_c x W (hg.later k) ho.x0.1 ho.x0.2)
  have HY := Lib.hid (fun W (k : Below w.heap.size w W) => lwh_c y W (hg.later k) ho.y0.1 ho.y0.2)
  have HSX := Lib.hid (fun W (k : Below w.heap.size w W) => rsub_c (sm_sz ho.sx) (sm_sz ho.sa) (by omega) g W (hg.later k) (h.later k))
  have HSY := Lib.hid (fun W (k : Below w.heap.size w W) => rsub_c (sm_sz ho.sy) (sm_sz ho.sb) (by omega) g W (hg.later k) (h.later k))
  have HMX := Lib.hid (fun W (k : Below w.heap.size w W) => rmul_c (sm_sz ho.dx) (sm_sz ho.dx) (by omega) g W (hg.later k) (h.later k))
  have HMY := Lib.hid (fun W (k : Below w.heap.size w W) => rmul_c (sm_sz ho.dy) (sm_sz ho.dy) (by omega) g W (hg.later k) (h.later k))
  have HAD := Lib.hid (fun W (k : Below w.heap.size w W) => radd_c (sm_sz ho.qx) (sm_sz ho.qy) (by omega) g W (hg.later k) (h.later k))
  have hB := bx22 w (.int .i64 x) (.int .i64 y) ((Value.string ⟨(rtoa a).toArray⟩)) ((Value.string ⟨(rtoa b).toArray⟩)) 24 61
  rw [show sqQ x y a b = ((x : Rat) - a) * ((x : Rat) - a) + ((y : Rat) - b) * ((y : Rat) - b) from rfl]
  clear ho h hg
  generalize ((x : Rat) - a) * ((x : Rat) - a) + ((y : Rat) - b) * ((y : Rat) - b) = r at *
  generalize ((x : Rat) - a) * ((x : Rat) - a) = qx at *
  generalize ((y : Rat) - b) * ((y : Rat) - b) = qy at *
  generalize ((x : Rat) - a) = dx at *
  generalize ((y : Rat) - b) = dy at *
  generalize (x : Rat) = xr at *
  generalize (y : Rat) = yr at *
  go_enter Tryz.func83, Tryz.ntmps83
  go_wp2_with fail
  generalize (w.alloc (.cells #[.int .i64 x, .int .i64 y] 24)).alloc (.cells #[.string ⟨(rtoa a).toArray⟩, .string ⟨(rtoa b).toArray⟩] 61) = W2 at *
  obtain ⟨hb2, hc⟩ := hB
  obtain ⟨n, hn⟩ : ∃ z, w.heap.size = z := ⟨_, rfl⟩
  have HN := Lib.hid hn
  have hnn : n < W2.heap.size := by rw [← hn]; exact World.block_lt_of_cell? W2 ⟨w.heap.size, 0, none⟩ hc.1
  rw [hn] at hc ⊢
  have HC := Lib.hid (fun W (k : Below W2.heap.size W2 W) => (⟨cellB hc.1 k, cellB hc.2.1 k, cellB hc.2.2.1 k, cellB hc.2.2.2 k⟩ : W.cell? ⟨n, 0, none⟩ = some (.int .i64 x) ∧ W.cell? ⟨n, 1, none⟩ = some (.int .i64 y) ∧ W.cell? ⟨n + 1, 0, none⟩ = some (.string ⟨(rtoa a).toArray⟩) ∧ W.cell? ⟨n + 1, 1, none⟩ = some (.string ⟨(rtoa b).toArray⟩)))
  have HB2 := Lib.hid hb2
  have hb0 := Below.refl W2.heap.size W2
  clear hc hn hb2 hnn
  go_wp2_with fail
  refine Go.Front.wp_region_front (S := fun V => V.cell? ⟨n, 0, none⟩ = some (.int .i64 x) ∧ V.cell? ⟨n, 1, none⟩ = some (.int .i64 y) ∧ V.cell? ⟨n + 1, 0, none⟩ = some (.string ⟨(rtoa a).toArray⟩) ∧ V.cell? ⟨n + 1, 1, none⟩ = some (.string ⟨(rtoa b).toArray⟩)) 14 (by kernel_rfl) (by simp) (by kernel_rfl) (by kernel_rfl) (by kernel_rfl) (by kernel_rfl) ?_ (fun hHeld => ?_)
  · (first | with_reducible exact HC.out _ B4 | with_reducible exact HC.out _ B3 | with_reducible exact HC.out _ B2 | with_reducible exact HC.out _ B1 | with_reducible exact HC.out _ hb0.drew)
  simp only [List.take_succ_cons, List.take_zero, List.drop_succ_cons, List.drop_zero]
  refine wpAnyH_take (i := 0) (v := ?_) rfl (by kernel_rfl) (by kernel_rfl) (by kernel_rfl) (fun _ _ _ h => h) (Or.inl ⟨by rfl, ?_⟩) hHeld ?_
  rotate_left
  · intro W hSw; (try dsimp only at hSw); go_simp <;> with_reducible rfl
  (try simp only [Act.put, List.setIfInBounds_toArray, List.set_cons_zero, List.set_cons_succ])
  refine wpAnyH_take (i := 1) (v := ?_) rfl (by kernel_rfl) (by kernel_rfl) (by kernel_rfl) (fun _ _ _ h => h) (Or.inl ⟨by rfl, ?_⟩) hHeld ?_
  rotate_left
  · intro W hSw; (try dsimp only at hSw); go_simp <;> with_reducible rfl
  (try simp only [Act.put, List.setIfInBounds_toArray, List.set_cons_zero, List.set_cons_succ])
  refine wpAnyH_take (i := 2) (v := ?_) rfl (by kernel_rfl) (by kernel_rfl) (by kernel_rfl) (fun _ _ _ h => h) (Or.inl ⟨by rfl, ?_⟩) hHeld ?_
  rotate_left
  · intro W hSw; (try dsimp only at hSw); go_simp <;> with_reducible rfl
  (try simp only [Act.put, List.setIfInBounds_toArray, List.set_cons_zero, List.set_cons_succ])
  refine wpAnyH_take (i := 4) (v := ?_) rfl (by kernel_rfl) (by kernel_rfl) (by kernel_rfl) (fun _ _ _ h => h) (Or.inl ⟨by rfl, ?_⟩) hHeld ?_
  rotate_left
  · intro W hSw; (try dsimp only at hSw); go_simp <;> with_reducible rfl
  (try simp only [Act.put, List.setIfInBounds_toArray, List.set_cons_zero, List.set_cons_succ])
  refine wpAnyH_take (i := 5) (v := ?_) rfl (by kernel_rfl) (by kernel_rfl) (by kernel_rfl) (fun _ _ _ h => h) (Or.inl ⟨by rfl, ?_⟩) hHeld ?_
  rotate_left
  · intro W hSw; (try dsimp only at hSw); go_simp <;> with_reducible rfl
  (try simp only [Act.put, List.setIfInBounds_toArray, List.set_cons_zero, List.set_cons_succ])
  refine wpAnyH_take (i := 7) (v := ?_) rfl (by kernel_rfl) (by kernel_rfl) (by kernel_rfl) (fun _ _ _ h => h) (Or.inl ⟨by rfl, ?_⟩) hHeld ?_
  rotate_left
  · intro W hSw; (try dsimp only at hSw); go_simp <;> with_reducible rfl
  (try simp only [Act.put, List.setIfInBounds_toArray, List.set_cons_zero, List.set_cons_succ])
  refine wpAnyH_take (i := 8) (v := ?_) rfl (by kernel_rfl) (by kernel_rfl) (by kernel_rfl) (fun _ _ _ h => h) (Or.inl ⟨by rfl, ?_⟩) hHeld ?_
  rotate_left
  · intro W hSw; (try dsimp only at hSw); go_simp <;> with_reducible rfl
  (try simp only [Act.put, List.setIfInBounds_toArray, List.set_cons_zero, List.set_cons_succ])
  refine wpAnyH_take (i := 9) (v := ?_) rfl (by kernel_rfl) (by kernel_rfl) (by kernel_rfl) (fun _ _ _ h => h) (Or.inl ⟨by rfl, ?_⟩) hHeld ?_
  rotate_left
  · intro W hSw; (try dsimp only at hSw); go_simp <;> with_reducible rfl
  (try simp only [Act.put, List.setIfInBounds_toArray, List.set_cons_zero, List.set_cons_succ])
  refine wpAnyH_take (i := 11) (v := ?_) rfl (by kernel_rfl) (by kernel_rfl) (by kernel_rfl) (fun _ _ _ h => h) (Or.inl ⟨by rfl, ?_⟩) hHeld ?_
  rotate_left
  · intro W hSw; (try dsimp only at hSw); go_simp <;> with_reducible rfl
  (try simp only [Act.put, List.setIfInBounds_toArray, List.set_cons_zero, List.set_cons_succ])
  refine wpAnyH_take (i := 12) (v := ?_) rfl (by kernel_rfl) (by kernel_rfl) (by kernel_rfl) (fun _ _ _ h => h) (Or.inl ⟨by rfl, ?_⟩) hHeld ?_
  rotate_left
  · intro W hSw; (try dsimp only at hSw); go_simp <;> with_reducible rfl
  (try simp only [Act.put, List.setIfInBounds_toArray, List.set_cons_zero, List.set_cons_succ])
  refine wpAnyH_ready (rs := [3]) (by kernel_rfl) (by simp) ?_
  refine AllReadyH.cons rfl (fun K hK => ?_) AllReadyH.nil
  go_simp
  ((with_reducible refine (HX.out _ (HB2.out.nxt hb0.drew)).mono ?_); rintro en w1 ⟨rfl, hb1⟩; have B1 := hb0.drew.nxt hb1; go_simp)
  refine hK.out _ _ ?_ (fun hHeld => ?_)
  · ((try dsimp only); first | with_reducible exact HC.out _ B4 | with_reducible exact HC.out _ B3 | with_reducible exact HC.out _ B2 | with_reducible exact HC.out _ B1 | with_reducible exact HC.out _ hb0.drew)
  clear hK K
  (try simp only [Act.put, List.setIfInBounds_toArray, List.set_cons_zero, List.set_cons_succ])
  refine wpAnyH_ready (rs := [6]) (by kernel_rfl) (by simp) ?_
  refine AllReadyH.cons rfl (fun K hK => ?_) AllReadyH.nil
  go_simp
  ((with_reducible refine (HSX.out _ (HB2.out.nxt B1)).mono ?_); rintro en w2 ⟨rfl, hb2⟩; have B2 := B1.nxt hb2; go_simp)
  refine hK.out _ _ ?_ (fun hHeld => ?_)
  · ((try dsimp only); first | with_reducible exact HC.out _ B4 | with_reducible exact HC.out _ B3 | with_reducible exact HC.out _ B2 | with_reducible exact HC.out _ B1 | with_reducible exact HC.out _ hb0.drew)
  clear hK K
  (try simp only [Act.put, List.setIfInBounds_toArray, List.set_cons_zero, List.set_cons_succ])
  refine wpAnyH_ready (rs := [10]) (by kernel_rfl) (by simp) ?_
  refine AllReadyH.cons rfl (fun K hK => ?_) AllReadyH.nil
  go_simp
  ((with_reducible refine (HY.out _ (HB2.out.nxt B2)).mono ?_); rintro en w3 ⟨rfl, hb3⟩; have B3 := B2.nxt hb3; go_simp)
  refine hK.out _ _ ?_ (fun hHeld => ?_)
  · ((try dsimp only); first | with_reducible exact HC.out _ B4 | with_reducible exact HC.out _ B3 | with_reducible exact HC.out _ B2 | with_reducible exact HC.out _ B1 | with_reducible exact HC.out _ hb0.drew)
  clear hK K
  (try simp only [Act.put, List.setIfInBounds_toArray, List.set_cons_zero, List.set_cons_succ])
  refine wpAnyH_ready (rs := [13]) (by kernel_rfl) (by simp) ?_
  refine AllReadyH.cons rfl (fun K hK => ?_) AllReadyH.nil
  go_simp
  ((with_reducible refine (HSY.out _ (HB2.out.nxt B3)).mono ?_); rintro en w4 ⟨rfl, hb4⟩; have B4 := B3.nxt hb4; go_simp)
  refine hK.out _ _ ?_ (fun hHeld => ?_)
  · ((try dsimp only); first | with_reducible exact HC.out _ B4 | with_reducible exact HC.out _ B3 | with_reducible exact HC.out _ B2 | with_reducible exact HC.out _ B1 | with_reducible exact HC.out _ hb0.drew)
  clear hK K
  (try simp only [Act.put, List.setIfInBounds_toArray, List.set_cons_zero, List.set_cons_succ])
  refine wpAnyH_done (by kernel_rfl) ?_ _
  show wpList _ _ _ _ _ _
  have hB4 := HB2.out.nxt B4
  clear HX HY HSX HSY HC hHeld hb0 hb1 hb2 hb3 hb4 B1 B2 B3 B4
  go_wp2_with fail
  ((with_reducible refine (HMX.out _ hB4).mono ?_); rintro en w5 ⟨rfl, hb5⟩)
  have hB5 := hB4.nxt hb5
  go_wp2_with fail
  ((with_reducible refine (HMY.out _ hB5).mono ?_); rintro en w6 ⟨rfl, hb6⟩)
  have hB6 := hB5.nxt hb6
  go_wp2_with fail
  ((with_reducible refine (HAD.out _ hB6).mono ?_); rintro en w7 ⟨rfl, hb7⟩)
  have hB7 := hB6.nxt hb7
  clear HMX HMY HAD hb5 hb6 hb7 hB4 hB5 hB6
  go_wp2
  go_ret
  exact ⟨rfl, hB7⟩
end Go.Proofs.Wk
/- RINGS: the zone about a place. -/
namespace Lp
/-- The least and the greatest of the first numbers. -/
def atF (q : Nat → Rat) : Nat → Rat × Rat
  | 0 => (0, 0)
  | i + 1 => (if i = 0 ∨ Go.Proofs.Wk.cmpQ (q i) (atF q i).1 < 0 then q i else (atF q i).1, if i = 0 ∨ Go.Proofs.Wk.cmpQ (atF q i).2 (q i) < 0 then q i else (atF q i).2)
def miF (q : Nat → Rat) (i : Nat) : Rat := (atF q i).1
def maF (q : Nat → Rat) (i : Nat) : Rat := (atF q i).2
end Lp
namespace Go.Proofs.Wk
open Go.RowKit Mt

theorem rz_res {P : Program} {fn : Func} {p u : Tmp} {ty : TypeId} (h : fn.results = #[.cell p ty, .tmp u]) (tmps : Array Value) (w : World) (g : Nat) (t : TypeId) (cs : Array Value) (fr : Nat × Nat) (d : TypeDesc)
    (hp : tmps.getD p undef = .pointer (some ⟨g, 0, none⟩)) (hg : w.heap[g]? = some (.cells cs t fr))
    (hu : P.underlying ty = some d) (hd : (match d with | .struct _ | .array _ _ => true | _ => false) = true) (hi : (P.info? ty).map (·.size) = some cs.size) :
    (results fn tmps).run P w = .ok (.tuple #[.agg cs, tmps.getD u undef]) w := by
  rw [results_cell_tmp h, hp]
  simp [asAddr, Result.andThen, run_loadVar_row w g t ty cs fr d hg hu hd hi]
abbrev eV : Value := .string ⟨#[]⟩
/-- The memory of 'at'. -/
structure AtM (w : World) (a b : Rat) (vi vo : Value) (W : World) : Prop where
  pl : W.heap[w.heap.size]? = some (.cells #[Value.string ⟨(rtoa a).toArray⟩, Value.string ⟨(rtoa b).toArray⟩] 61 (0, 0))
  rs : W.heap[w.heap.size + 1]? = some (.cells #[eV, eV, eV, eV] 63 (0, 0))
  sm : RnS W (w.heap.size + 2)
  zn : W.heap[w.heap.size + 3]? = some (.cells #[Value.string ⟨(rtoa a).toArray⟩, Value.string ⟨(rtoa b).toArray⟩, vi, vo] 63 (0, 0))
  w : Below w.heap.size w W
section
variable {w W : World} {a b : Rat} {vi vo : Value}
theorem AtM.later (h : AtM w a b vi vo W) {W' : World} (hb : Below W.heap.size W W') : AtM w a b vi vo W' := ⟨keepB h.pl hb, keepB h.rs hb, h.sm.later hb, keepB h.zn hb, h.w.nxt hb⟩
theorem AtM.set2 (h : AtM w a b vi vo W) (v : Value) : AtM w a b v vo (W.setCell ⟨w.heap.size + 3, 2, none⟩ v) :=
  ⟨(heap_setCell_other W ⟨w.heap.size + 3, 2, none⟩ _ v (show w.heap.size ≠ w.heap.size + 3 by omega)).trans h.pl, (heap_setCell_other W ⟨w.heap.size + 3, 2, none⟩ _ v (show w.heap.size + 1 ≠ w.heap.size + 3 by omega)).trans h.rs,
    (heap_setCell_other W ⟨w.heap.size + 3, 2, none⟩ _ v (show w.heap.size + 2 ≠ w.heap.size + 3 by omega)).trans h.sm, heap_setCell_same W _ 2 _ _ v h.zn, Below.setc h.w (by omega) _ _⟩
theorem AtM.set3 (h : AtM w a b vi vo W) (v : Value) : AtM w a b vi v (W.setCell ⟨w.heap.size + 3, 3, none⟩ v) :=
  ⟨(heap_setCell_other W ⟨w.heap.size + 3, 3, none⟩ _ v (show w.heap.size ≠ w.heap.size + 3 by omega)).trans h.pl, (heap_setCell_other W ⟨w.heap.size + 3, 3, none⟩ _ v (show w.heap.size + 1 ≠ w.heap.size + 3 by omega)).trans h.rs,
    (heap_setCell_other W ⟨w.heap.size + 3, 3, none⟩ _ v (show w.heap.size + 2 ≠ w.heap.size + 3 by omega)).trans h.sm, heap_setCell_same W _ 3 _ _ v h.zn, Below.setc h.w (by omega) _ _⟩
theorem AtM.cells (h : AtM w a b vi vo W) : W.cell? ⟨w.heap.size, 0, none⟩ = some ((Value.string ⟨(rtoa a).toArray⟩)) ∧ W.cell? ⟨w.heap.size, 1, none⟩ = some ((Value.string ⟨(rtoa b).toArray⟩)) ∧ W.cell? ⟨w.heap.size + 3, 0, none⟩ = some ((Value.string ⟨(rtoa a).toArray⟩)) ∧ W.cell? ⟨w.heap.size + 3, 1, none⟩ = some ((Value.string ⟨(rtoa b).toArray⟩)) ∧ W.cell? ⟨w.heap.size + 3, 2, none⟩ = some vi ∧ W.cell? ⟨w.heap.size + 3, 3, none⟩ = some vo :=
  ⟨by rw [cell_of_row _ _ _ _ _ _ h.pl]; rfl, by rw [cell_of_row _ _ _ _ _ _ h.pl]; rfl, by rw [cell_of_row _ _ _ _ _ _ h.zn]; rfl, by rw [cell_of_row _ _ _ _ _ _ h.zn]; rfl, by rw [cell_of_row _ _ _ _ _ _ h.zn]; rfl, by rw [cell_of_row _ _ _ _ _ _ h.zn]; rfl⟩
theorem AtM.free (h : AtM w a b vi vo W) (k : Nat) : W.frozen? ⟨w.heap.size + 3, k, none⟩ = false := frozen_of_row _ _ k _ _ h.zn
theorem AtM.fin (h : AtM w a b vi vo W) :
    ((((W.setCell ⟨w.heap.size + 1, 0, none⟩ ((Value.string ⟨(rtoa a).toArray⟩))).setCell ⟨w.heap.size + 1, 1, none⟩ ((Value.string ⟨(rtoa b).toArray⟩))).setCell ⟨w.heap.size + 1, 2, none⟩ vi).setCell ⟨w.heap.size + 1, 3, none⟩ vo).heap[w.heap.size + 1]? = some (.cells #[Value.string ⟨(rtoa a).toArray⟩, Value.string ⟨(rtoa b).toArray⟩, vi, vo] 63 (0, 0)) ∧
    Below w.heap.size w ((((W.setCell ⟨w.heap.size + 1, 0, none⟩ ((Value.string ⟨(rtoa a).toArray⟩))).setCell ⟨w.heap.size + 1, 1, none⟩ ((Value.string ⟨(rtoa b).toArray⟩))).setCell ⟨w.heap.size + 1, 2, none⟩ vi).setCell ⟨w.heap.size + 1, 3, none⟩ vo) := by
  refine ⟨?_, Below.setc (Below.setc (Below.setc (Below.setc h.w (by omega) _ _) (by omega) _ _) (by omega) _ _) (by omega) _ _⟩
  have h0 := heap_setCell_same W (w.heap.size + 1) 0 _ _ ((Value.string ⟨(rtoa a).toArray⟩)) h.rs
  have h1 := heap_setCell_same _ (w.heap.size + 1) 1 _ _ ((Value.string ⟨(rtoa b).toArray⟩)) h0
  have h2 := heap_setCell_same _ (w.heap.size + 1) 2 _ _ vi h1
  exact heap_setCell_same _ (w.heap.size + 1) 3 _ _ vo h2
end
theorem at_new (w : World) (a b : Rat) : AtM w a b eV eV ((((w.alloc (.cells #[Value.string ⟨(rtoa a).toArray⟩, Value.string ⟨(rtoa b).toArray⟩] 61)).alloc (.cells #[eV, eV, eV, eV] 63)).alloc (.cells #[.int .i64 0] 102)).alloc (.cells #[Value.string ⟨(rtoa a).toArray⟩, Value.string ⟨(rtoa b).toArray⟩, eV, eV] 63)) := by
  have h1 := heap_alloc_new w (.cells #[Value.string ⟨(rtoa a).toArray⟩, Value.string ⟨(rtoa b).toArray⟩] 61)
  have b1 := lal w (.cells #[Value.string ⟨(rtoa a).toArray⟩, Value.string ⟨(rtoa b).toArray⟩] 61)
  have s1 : (w.alloc (.cells #[Value.string ⟨(rtoa a).toArray⟩, Value.string ⟨(rtoa b).toArray⟩] 61)).heap.size = w.heap.size + 1 := by simp
  generalize w.alloc (.cells #[Value.string ⟨(rtoa a).toArray⟩, Value.string ⟨(rtoa b).toArray⟩] 61) = W1 at *
  have h2 := heap_alloc_new W1 (.cells #[eV, eV, eV, eV] 63)
  have b2 := lal W1 (.cells #[eV, eV, eV, eV] 63)
  have s2 : (W1.alloc (.cells #[eV, eV, eV, eV] 63)).heap.size = W1.heap.size + 1 := by simp
  generalize W1.alloc (.cells #[eV, eV, eV, eV] 63) = W2 at *
  have h3 := heap_alloc_new W2 (.cells #[.int .i64 0] 102)
  have b3 := lal W2 (.cells #[.int .i64 0] 102)
  have s3 : (W2.alloc (.cells #[.int .i64 0] 102)).heap.size = W2.heap.size + 1 := by simp
  generalize W2.alloc (.cells #[.int .i64 0] 102) = W3 at *
  have h4 := heap_alloc_new W3 (.cells #[Value.string ⟨(rtoa a).toArray⟩, Value.string ⟨(rtoa b).toArray⟩, eV, eV] 63)
  have b4 := lal W3 (.cells #[Value.string ⟨(rtoa a).toArray⟩, Value.string ⟨(rtoa b).toArray⟩, eV, eV] 63)
  rw [s1] at h2
  rw [s2, s1] at h3
  rw [s3, s2, s1] at h4
  exact ⟨keepB (keepB (keepB h1 b2) b3) b4, keepB (keepB h2 b3) b4, keepB h3 b4, h4, ((b1.nxt b2).nxt b3).nxt b4⟩
/-- Points in memory. -/
def PtsN (W : World) (g off n : Nat) (P : Nat → Int × Int) : Prop := ∀ i, i < n → W.cell? ⟨g, off + i * 2, none⟩ = some (.int .i64 (P i).1) ∧ W.cell? ⟨g, off + i * 2 + 1, none⟩ = some (.int .i64 (P i).2)
theorem PtsN.later {W W' : World} {g off n : Nat} {P : Nat → Int × Int} (h : PtsN W g off n P) (hb : Below W.heap.size W W') : PtsN W' g off n P := fun i hi => ⟨cellB (h i hi).1 hb, cellB (h i hi).2 hb⟩
structure AtO (n : Nat) (P : Nat → Int × Int) (a b : Rat) (q : Nat → Rat) : Prop where
  n0 : 0 < n
  n1 : n ≤ 64
  qe : ∀ i, i < n → sqQ (P i).1 (P i).2 a b = q i
  sq : ∀ i, i < n → SqO (P i).1 (P i).2 a b
  sm : ∀ i, i < n → Lp.sm (q i) = true
  mi : ∀ i, i < n → Lp.sm (Lp.miF q i) = true ∧ Lp.sm (Lp.maF q i) = true
def aVi (q : Nat → Rat) (i : Nat) : Value := if i = 0 then eV else (Value.string ⟨(rtoa (Lp.miF q i)).toArray⟩)
def aVo (q : Nat → Rat) (i : Nat) : Value := if i = 0 then eV else (Value.string ⟨(rtoa (Lp.maF q i)).toArray⟩)
theorem aVi_pos (q : Nat → Rat) (i : Nat) (h : 0 < i) : aVi q i = (Value.string ⟨(rtoa (Lp.miF q i)).toArray⟩) := if_neg (by omega)
theorem aVo_pos (q : Nat → Rat) (i : Nat) (h : 0 < i) : aVo q i = (Value.string ⟨(rtoa (Lp.maF q i)).toArray⟩) := if_neg (by omega)
theorem mi_one (q : Nat → Rat) : Lp.miF q 1 = q 0 := by simp [Lp.miF, Lp.atF]
theorem ma_one (q : Nat → Rat) : Lp.maF q 1 = q 0 := by simp [Lp.maF, Lp.atF]
theorem mi_next (q : Nat → Rat) (i : Nat) (h : 0 < i) {b : Bool} (hb : decide (cmpQ (q i) (Lp.miF q i) < 0) = b) : Lp.miF q (i + 1) = if b then q i else Lp.miF q i := by
  subst hb
  unfold Lp.miF
  rw [Lp.atF]
  have : ¬ i = 0 := by omega
  simp [this]
theorem ma_next (q : Nat → Rat) (i : Nat) (h : 0 < i) {b : Bool} (hb : decide (cmpQ (Lp.maF q i) (q i) < 0) = b) : Lp.maF q (i + 1) = if b then q i else Lp.maF q i := by
  subst hb
  unfold Lp.maF
  rw [Lp.atF]
  have : ¬ i = 0 := by omega
  simp [this]
set_option maxRecDepth 100000 in
set_option linter.unusedSimpArgs false in
set_option maxHeartbeats 4000000 in
theorem at_c {n : Nat} {P : Nat → Int × Int} {a b : Rat} {q : Nat → Rat} (ho : AtO n P a b q) {g off cap : Nat} (w : World) (hg : Good w) (hP : PtsN w g off n P) :
    Calls Tryz.prog 46 #[.slice (some ⟨g, off, none⟩) n cap, .agg #[Value.string ⟨(rtoa a).toArray⟩, Value.string ⟨(rtoa b).toArray⟩]] w (Ret w (.tuple #[.agg #[Value.string ⟨(rtoa a).toArray⟩, Value.string ⟨(rtoa b).toArray⟩, Value.string ⟨(rtoa (Lp.miF q n)).toArray⟩, Value.string ⟨(rtoa (Lp.maF q n)).toArray⟩], .int .i64 0])) := by
  have HG := Lib.hid (fun W (k : Below w.heap.size w W) => hg.later k)
  have HP := Lib.hid (fun W (k : Below w.heap.size w W) => hP.later k)
  have HN := Lib.hid (at_new w a b)
  have HO := Lib.hid ho
  have hn0 := ho.n0
  have hn1 := ho.n1
  clear hP hg ho
  go_enter Tryz.func46, Tryz.ntmps46
  go_wp2_with fail
  simp only [Nat.add_assoc, Nat.reduceAdd]
  generalize (((w.alloc (.cells #[.string ⟨(rtoa a).toArray⟩, .string ⟨(rtoa b).toArray⟩] 61)).alloc (.cells #[eV, eV, eV, eV] 63)).alloc (.cells #[.int .i64 0] 102)).alloc (.cells #[.string ⟨(rtoa a).toArray⟩, .string ⟨(rtoa b).toArray⟩, eV, eV] 63) = W4 at *
  go_loopw [17] (fun si wr => ∃ i : Nat, si = .int .i64 (i : Int) ∧ i ≤ n ∧ Hid (AtM w a b (aVi q i) (aVo q i) wr)) (fun si _ => n - (intOf si).toNat)
  case atStart => exact ⟨0, rfl, Nat.zero_le _, HN.out⟩
  case round =>
    obtain ⟨i, rfl, hi, hM⟩ := hrel
    clear HN
    by_cases hlt : i < n
    · obtain ⟨c0, c1⟩ := HP.out _ hM.out.w i hlt
      have i4 : (0 : Int) ≤ (i : Int) := by omega
      have i5 : (i : Int) < (n : Int) := by omega
      have hMA := hM.out.later (lal wr (.cells #[.int .i64 (P i).1, .int .i64 (P i).2] 24))
      obtain ⟨p0, p1, -, -, -, -⟩ := hMA.cells
      have HMA := Lib.hid hMA
      have HSQ := Lib.hid (squareR_c (HO.out.sq i hlt) (w.heap.size + 2) _ (HG.out _ hMA.w) hMA.sm)
      rw [HO.out.qe i hlt] at HSQ
      have hsq := HO.out.sm i hlt
      obtain ⟨hmi, hma⟩ := HO.out.mi i hlt
      have HL1 := Lib.hid (fun vi vo W (T : AtM w a b vi vo W) => rless_c (sm_sz hsq) (sm_sz hmi) (by omega) (w.heap.size + 2) W (HG.out _ T.w) T.sm)
      have HL2 := Lib.hid (fun vi vo W (T : AtM w a b vi vo W) => rless_c (sm_sz hma) (sm_sz hsq) (by omega) (w.heap.size + 2) W (HG.out _ T.w) T.sm)
      clear hM hMA hsq hmi hma HP HG HO
      generalize (P i).1 = px at *
      generalize (P i).2 = py at *
      generalize hqi : q i = x at *
      go_wp2_with fail
      ((with_reducible refine HSQ.out.mono ?_); rintro en w5 ⟨rfl, hb5⟩)
      have h5 := HMA.out.later hb5
      clear HSQ HMA hb5 c0 c1 p0 p1
      by_cases h0 : i = 0
      · have z1 : ((i : Int) == 0) = true := by rw [h0]; rfl
        clear HL1 HL2
        rw [h0] at hqi
        have HE := Lib.hid (show aVi q (i + 1) = (Value.string ⟨(rtoa x).toArray⟩) ∧ aVo q (i + 1) = (Value.string ⟨(rtoa x).toArray⟩) from ⟨by rw [h0, aVi_pos q 1 (by omega), mi_one, hqi], by rw [h0, aVo_pos q 1 (by omega), ma_one, hqi]⟩)
        clear hqi
        obtain ⟨-, -, -, -, m2, m3⟩ := h5.cells
        have f2 := h5.free 2
        have h6 := h5.set2 ((Value.string ⟨(rtoa x).toArray⟩))
        obtain ⟨-, -, -, -, -, m5⟩ := h6.cells
        have f5 := h6.free 3
        have H7 := Lib.hid (h6.set3 ((Value.string ⟨(rtoa x).toArray⟩)))
        clear h5 h6
        go_wp2
        go_roundw
        case rel => exact ⟨i + 1, by go_num, by omega, by rw [HE.out.1, HE.out.2]; exact H7.out⟩
        case measure => simp [intOf]; omega
      · have hip : 0 < i := by omega
        rw [aVi_pos q i hip, aVo_pos q i hip] at h5
        obtain ⟨b1, hb1⟩ : ∃ z, decide (cmpQ x (Lp.miF q i) < 0) = z := ⟨_, rfl⟩
        obtain ⟨b2, hb2⟩ : ∃ z, decide (cmpQ (Lp.maF q i) x < 0) = z := ⟨_, rfl⟩
        have HE := Lib.hid (show aVi q (i + 1) = (Value.string ⟨(rtoa (if b1 then x else Lp.miF q i)).toArray⟩) ∧ aVo q (i + 1) = (Value.string ⟨(rtoa (if b2 then x else Lp.maF q i)).toArray⟩) from ⟨by rw [aVi_pos q (i + 1) (by omega), mi_next q i hip (b := b1) (by rw [hqi]; exact hb1), hqi], by rw [aVo_pos q (i + 1) (by omega), ma_next q i hip (b := b2) (by rw [hqi]; exact hb2), hqi]⟩)
        rw [hb1] at HL1
        rw [hb2] at HL2
        have z1 : ((i : Int) == 0) = false := beq_eq_false_iff_ne.2 (by omega)
        clear hb1 hb2 hqi
        generalize Lp.miF q i = vi at *
        generalize Lp.maF q i = vo at *
        obtain ⟨-, -, -, -, m2, m3⟩ := h5.cells
        go_wp2_with fail
        ((with_reducible refine (HL1.out _ _ _ h5).mono ?_); rintro en w6 ⟨rfl, hb6⟩)
        have h6 := h5.later hb6
        clear h5 hb6 m2 m3 HL1
        obtain ⟨-, -, -, -, m2, m3⟩ := h6.cells
        have f2 := h6.free 2
        have f3 := h6.free 3
        cases b1 with
        | false =>
          go_wp2_with fail
          ((with_reducible refine (HL2.out _ _ _ h6).mono ?_); rintro en w7 ⟨rfl, hb7⟩)
          have h7 := h6.later hb7
          clear h6 hb7 m2 m3 f2 f3 HL2
          have f3 := h7.free 3
          obtain ⟨-, -, -, -, m2, m3⟩ := h7.cells
          have H7 := Lib.hid h7
          have H8 := Lib.hid (h7.set3 ((Value.string ⟨(rtoa x).toArray⟩)))
          clear h7
          cases b2 with
          | false =>
            go_wp2
            go_roundw
            case rel => exact ⟨i + 1, by go_num, by omega, by rw [HE.out.1, HE.out.2]; exact H7.out⟩
            case measure => simp [intOf]; omega
          | true =>
            go_wp2
            go_roundw
            case rel => exact ⟨i + 1, by go_num, by omega, by rw [HE.out.1, HE.out.2]; exact H8.out⟩
            case measure => simp [intOf]; omega
        | true =>
          have hA := h6.set2 ((Value.string ⟨(rtoa x).toArray⟩))
          obtain ⟨-, -, -, -, mA, mB⟩ := hA.cells
          have HA := Lib.hid hA
          clear hA h6
          go_wp2_with fail
          ((with_reducible refine (HL2.out _ _ _ HA.out).mono ?_); rintro en w7 ⟨rfl, hb7⟩)
          have h7 := HA.out.later hb7
          clear hb7 m2 m3 f2 f3 HL2 HA mA mB
          have f3 := h7.free 3
          obtain ⟨-, -, -, -, m2, m3⟩ := h7.cells
          have H7 := Lib.hid h7
          have H8 := Lib.hid (h7.set3 ((Value.string ⟨(rtoa x).toArray⟩)))
          clear h7
          cases b2 with
          | false =>
            go_wp2
            go_roundw
            case rel => exact ⟨i + 1, by go_num, by omega, by rw [HE.out.1, HE.out.2]; exact H7.out⟩
            case measure => simp [intOf]; omega
          | true =>
            go_wp2
            go_roundw
            case rel => exact ⟨i + 1, by go_num, by omega, by rw [HE.out.1, HE.out.2]; exact H8.out⟩
            case measure => simp [intOf]; omega
    · obtain rfl : i = n := by omega
      rw [aVi_pos q i hn0, aVo_pos q i hn0] at hM
      have c2 := one_cell hM.out.sm
      obtain ⟨-, -, m0, m1, m2, m3⟩ := hM.out.cells
      have fr := fun k => frozen_of_row _ _ k _ _ hM.out.rs
      have r0 : wr.cell? ⟨w.heap.size + 1, 0, none⟩ = some eV := by rw [cell_of_row _ _ _ _ _ _ hM.out.rs]; rfl
      have r1 : wr.cell? ⟨w.heap.size + 1, 1, none⟩ = some eV := by rw [cell_of_row _ _ _ _ _ _ hM.out.rs]; rfl
      have r2 : wr.cell? ⟨w.heap.size + 1, 2, none⟩ = some eV := by rw [cell_of_row _ _ _ _ _ _ hM.out.rs]; rfl
      have r3 : wr.cell? ⟨w.heap.size + 1, 3, none⟩ = some eV := by rw [cell_of_row _ _ _ _ _ _ hM.out.rs]; rfl
      have HF := Lib.hid hM.out.fin
      clear HP HG HO hM
      generalize Lp.miF q i = vi at *
      generalize Lp.maF q i = vo at *
      go_wp2
      refine bodyPost_ret (rz_res rfl _ _ (w.heap.size + 1) 63 _ _ _ (by kernel_rfl) HF.out.1 Tryz.underlying63 rfl (by kernel_rfl)) rfl ?_
      exact ⟨rfl, HF.out.2⟩
end Go.Proofs.Wk
/- RINGS: the bounds of points. -/
namespace Go.Proofs.Wk
open Go.RowKit Go.Rng Mt
attribute [local go_sem] Oper.semAt_some

def BdFn (v : Value) (w : World) (e : Ending) (w' : World) : Prop := e = .returned (.func (.func 80) #[] #[.pointer (some ⟨w.heap.size, 0, none⟩)]) ∧ w' = w.alloc (.cells #[v] 22)
theorem bounds_c (a : Option Addr) (n cap : Nat) (w : World) : Calls Tryz.prog 44 #[.slice a n cap] w (BdFn (.slice a n cap) w) := by
  go_enter Tryz.func44, Tryz.ntmps44
  go_wp2
  go_ret
  exact ⟨rfl, rfl⟩
/-- The bounds of a point. -/
def bnd (P : Nat → Int × Int) (s : Nat) : List Rat × Rat :=
  if s % 2 = 0 then ([((-2 * (P (s / 2)).1 : Int) : Rat), ((-2 * (P (s / 2)).2 : Int) : Rat), 0, -1], ((-((P (s / 2)).1 * (P (s / 2)).1 + (P (s / 2)).2 * (P (s / 2)).2) : Int) : Rat))
  else ([((2 * (P (s / 2)).1 : Int) : Rat), ((2 * (P (s / 2)).2 : Int) : Rat), 1, 0], (((P (s / 2)).1 * (P (s / 2)).1 + (P (s / 2)).2 * (P (s / 2)).2 : Int) : Rat))
/-- A point whose bounds are small. -/
structure BnO (x y : Int) : Prop where
  w1 : IntKind.i64.wrap (x * x) = x * x
  w2 : IntKind.i64.wrap (y * y) = y * y
  w3 : IntKind.i64.wrap (x * x + y * y) = x * x + y * y
  w4 : IntKind.i64.wrap (-2 * x) = -2 * x
  w5 : IntKind.i64.wrap (-2 * y) = -2 * y
  w6 : IntKind.i64.wrap (2 * x) = 2 * x
  w7 : IntKind.i64.wrap (2 * y) = 2 * y
  w8 : IntKind.i64.wrap (-(x * x + y * y)) = -(x * x + y * y)
  b4 : -1000 ≤ -2 * x ∧ -2 * x ≤ 1000
  b5 : -1000 ≤ -2 * y ∧ -2 * y ≤ 1000
  b8 : 0 ≤ x * x + y * y ∧ x * x + y * y ≤ 1000
theorem c2of {w : World} {g : Nat} {a b : Value} {T : TypeId} {fr : Nat × Nat} (h : w.heap[g]? = some (.cells #[a, b] T fr)) : w.cell? ⟨g, 0, none⟩ = some a ∧ w.cell? ⟨g, 1, none⟩ = some b :=
  ⟨by rw [cell_of_row _ _ _ _ _ _ h]; rfl, by rw [cell_of_row _ _ _ _ _ _ h]; rfl⟩
theorem drew_sz (w : World) : w.drew.heap.size = w.heap.size := rfl
theorem leaf_fin {B : Nat} {w W : World} {gp gb : Nat} {a b v0 v1 : Value} {cs : Array Value} {T T2 : TypeId} {f2 : Nat × Nat} (hp : W.heap[gp]? = some (.cells #[a, b] T (0, 0))) (hb : W.heap[gb]? = some (.cells cs T2 f2)) (hne : T2 ≠ T) (hle : B ≤ gp) (hB : Below B w W) :
    ((W.setCell ⟨gp, 0, none⟩ v0).setCell ⟨gp, 1, none⟩ v1).heap[gp]? = some (.cells #[v0, v1] T (0, 0)) ∧ ((W.setCell ⟨gp, 0, none⟩ v0).setCell ⟨gp, 1, none⟩ v1).heap[gb]? = some (.cells cs T2 f2) ∧ Below B w ((W.setCell ⟨gp, 0, none⟩ v0).setCell ⟨gp, 1, none⟩ v1) := by
  have hn : gb ≠ gp := by
    rintro rfl
    rw [hp] at hb
    cases hb
    exact hne rfl
  have h0 := heap_setCell_same W gp 0 _ _ v0 hp
  exact ⟨heap_setCell_same _ gp 1 _ _ v1 h0, ((heap_setCell_other _ ⟨gp, 1, none⟩ gb v1 hn).trans (heap_setCell_other W ⟨gp, 0, none⟩ gb v0 hn)).trans hb, Below.setc (Below.setc hB hle _ _) hle _ _⟩
theorem bnd_up (P : Nat → Int × Int) (i : Nat) : bnd P (2 * i) = ([((-2 * (P i).1 : Int) : Rat), ((-2 * (P i).2 : Int) : Rat), 0, -1], ((-((P i).1 * (P i).1 + (P i).2 * (P i).2) : Int) : Rat)) := by
  unfold bnd
  rw [if_pos (by omega), show 2 * i / 2 = i by omega]
theorem bnd_dn (P : Nat → Int × Int) (i : Nat) : bnd P (2 * i + 1) = ([((2 * (P i).1 : Int) : Rat), ((2 * (P i).2 : Int) : Rat), 1, 0], (((P i).1 * (P i).1 + (P i).2 * (P i).2 : Int) : Rat)) := by
  unfold bnd
  rw [if_neg (by omega), show (2 * i + 1) / 2 = i by omega]
theorem up_row (a b : Rat) : (#[Value.string ⟨(rtoa a).toArray⟩, Value.string ⟨(rtoa b).toArray⟩, .string ⟨#[48]⟩, .string ⟨#[45, 49]⟩] : Array Value) = rtC [a, b, 0, -1] := by rw [z_lit, rt_neg]; rfl
theorem dn_row (a b : Rat) : (#[Value.string ⟨(rtoa a).toArray⟩, Value.string ⟨(rtoa b).toArray⟩, .string ⟨#[49]⟩, .string ⟨#[48]⟩] : Array Value) = rtC [a, b, 1, 0] := by rw [z_lit, rt_one]; rfl
/-- How the iterator ends, and how a round is answered: what lay between B and the world's end stays. -/
def BnP (J : Nat → Nat → World → Prop) (n : Nat) (e : Ending) (w : World) : Prop := (∃ v, e = .returned v) ∧ J (2 * n) w.heap.size w
def BnY (J : Nat → Nat → World → Prop) (s B : Nat) (W1 : World) (e : Ending) (w : World) : Prop := e = .returned (.bool true) ∧ J (s + 1) w.heap.size w ∧ ∀ g, B ≤ g → g < W1.heap.size → w.heap[g]? = W1.heap[g]?
set_option maxRecDepth 100000 in
set_option linter.unusedSimpArgs false in
set_option maxHeartbeats 4000000 in
theorem bounds_in {n : Nat} (hn : n ≤ 64) {P : Nat → Int × Int} (ho : ∀ i, i < n → BnO (P i).1 (P i).2) {g off cap : Nat} (cb l : Nat) (J : Nat → Nat → World → Prop) (hJ : ∀ s B W1 W2, J s B W1 → Below W1.heap.size W1 W2 → J s B W2)
    (hJc : ∀ s B W1, J s B W1 → W1.cell? ⟨cb, 0, none⟩ = some (.slice (some ⟨g, off, none⟩) n cap) ∧ PtsN W1 g off n P ∧ Good W1)
    (hgo : ∀ s B gb W1, s < 2 * n → J s B W1 → W1.heap[gb]? = some (.cells (rtC (bnd P s).1) 27 (0, 0)) → YieldAt Fence.wide 0 Tryz.prog l #[.agg #[.slice (some ⟨gb, 0, none⟩) 4 4, Value.string ⟨(rtoa ((bnd P s).2)).toArray⟩]] W1 (BnY J s B W1))
    (W : World) (hj : J 0 W.heap.size W) :
    CallsIn Fence.wide 0 Tryz.prog 80 #[.func (.yield l) #[] #[], .pointer (some ⟨cb, 0, none⟩)] W (BnP J n) := by
  have HJ0 := Lib.hid hj
  have HJS := Lib.hid hJ
  have HJC := Lib.hid hJc
  have HGO := Lib.hid hgo
  have HO := Lib.hid ho
  have c0 := (hJc _ _ _ hj).1
  clear hj hJ hJc hgo ho
  refine callsIn_of_wp Tryz.func80 rfl trivial ?_
  simp only [Tryz.ntmps80, List.size_toArray, List.length_cons, List.length_nil, Nat.reduceAdd, Nat.reduceSub, Array.replicate_succ, Array.replicate_zero, List.push_toArray, List.append_toArray, List.nil_append, List.cons_append]
  gi_wp2
  clear c0
  gi_loopw [10] (fun si wr => ∃ i : Nat, si = .int .i64 (i : Int) ∧ i ≤ n ∧ Hid (J (2 * i) wr.heap.size wr)) (fun si _ => n - (intOf si).toNat)
  case atStart => exact ⟨0, rfl, Nat.zero_le _, HJ0.out⟩
  case round =>
    obtain ⟨i, rfl, hi, hjw⟩ := hrel
    clear HJ0
    by_cases hlt : i < n
    · have HBU := Lib.hid (bnd_up P i)
      have HBD := Lib.hid (bnd_dn P i)
      obtain ⟨-, hp, -⟩ := HJC.out _ _ _ hjw.out
      obtain ⟨p0, p1⟩ := hp i hlt
      have i4 : (0 : Int) ≤ (i : Int) := by omega
      have i5 : (i : Int) < (n : Int) := by omega
      obtain ⟨w1, w2, w3, w4, w5, w6, w7, w8, b4, b5, b8⟩ := HO.out i hlt
      clear hp
      generalize (P i).1 = x at *
      generalize (P i).2 = y at *
      have hbq := lal wr (.cells #[.int .i64 x, .int .i64 y] 24)
      have HGD := Lib.hid (fun W (h : Below (wr.alloc (.cells #[.int .i64 x, .int .i64 y] 24)).heap.size (wr.alloc (.cells #[.int .i64 x, .int .i64 y] 24)) W) => (HJC.out _ _ _ (HJS.out _ _ _ _ hjw.out (hbq.nxt h))).2.2)
      have HJQ := Lib.hid (fun W (h : Below (wr.alloc (.cells #[.int .i64 x, .int .i64 y] 24)).heap.size (wr.alloc (.cells #[.int .i64 x, .int .i64 y] 24)) W) => HJS.out _ _ _ _ hjw.out (hbq.nxt h))
      have HW4 := Lib.hid (fun W h => lwh_c (-2 * x) W (HGD.out W h) b4.1 b4.2)
      have HW5 := Lib.hid (fun W h => lwh_c (-2 * y) W (HGD.out W h) b5.1 b5.2)
      have HW8 := Lib.hid (fun W h => lwh_c (-(x * x + y * y)) W (HGD.out W h) (by omega) (by omega))
      have HX4 := Lib.hid (fun W h => lwh_c (2 * x) W (HGD.out W h) (by omega) (by omega))
      have HX5 := Lib.hid (fun W h => lwh_c (2 * y) W (HGD.out W h) (by omega) (by omega))
      have HX8 := Lib.hid (fun W h => lwh_c (x * x + y * y) W (HGD.out W h) (by omega) (by omega))
      obtain ⟨q4, hq4⟩ : ∃ q : Rat, ((-2 * x : Int) : Rat) = q := ⟨_, rfl⟩
      obtain ⟨q5, hq5⟩ : ∃ q : Rat, ((-2 * y : Int) : Rat) = q := ⟨_, rfl⟩
      obtain ⟨q8, hq8⟩ : ∃ q : Rat, ((-(x * x + y * y) : Int) : Rat) = q := ⟨_, rfl⟩
      obtain ⟨r4, hr4⟩ : ∃ q : Rat, ((2 * x : Int) : Rat) = q := ⟨_, rfl⟩
      obtain ⟨r5, hr5⟩ : ∃ q : Rat, ((2 * y : Int) : Rat) = q := ⟨_, rfl⟩
      obtain ⟨r8, hr8⟩ : ∃ q : Rat, ((x * x + y * y : Int) : Rat) = q := ⟨_, rfl⟩
      rw [hq4] at HW4
      rw [hq5] at HW5
      rw [hq8] at HW8
      rw [hr4] at HX4
      rw [hr5] at HX5
      rw [hr8] at HX8
      have hbu := HBU.out
      have hbd := HBD.out
      rw [hq4, hq5, hq8] at hbu
      rw [hr4, hr5, hr8] at hbd
      have HU := Lib.hid hbu
      have HD := Lib.hid hbd
      clear HBU HBD hbu hbd
      clear hq4 hq5 hq8 hr4 hr5 hr8 hbq HGD hjw
      gi_upto_region 4 with fail
      have HPC := Lib.hid (fun W (h : Below (wr.alloc (.cells #[.int .i64 x, .int .i64 y] 24)).heap.size (wr.alloc (.cells #[.int .i64 x, .int .i64 y] 24)) W) => by
          have hr := keepB (heap_alloc_new wr (.cells #[.int .i64 x, .int .i64 y] 24)) h
          exact (⟨by rw [cell_of_row _ _ _ _ _ _ hr]; rfl, by rw [cell_of_row _ _ _ _ _ _ hr]; rfl⟩ : W.cell? ⟨wr.heap.size, 0, none⟩ = some (.int .i64 x) ∧ W.cell? ⟨wr.heap.size, 1, none⟩ = some (.int .i64 y)))
      have HWQ := Lib.hid (lal wr (.cells #[.int .i64 x, .int .i64 y] 24)).size
      clear p0 p1
      generalize wr.alloc (.cells #[.int .i64 x, .int .i64 y] 24) = wq at *
      have hq := Below.refl wq.heap.size wq
      gi_cut [6] from 25 (fun s6 wx => ∃ gp gb : Nat, s6 = .pointer (some ⟨gp, 0, none⟩) ∧ Hid (wx.heap[gp]? = some (.cells #[.slice (some ⟨gb, 0, none⟩) 4 4, Value.string ⟨(rtoa q8).toArray⟩] 96 (0, 0))) ∧ Hid (wx.heap[gb]? = some (.cells #[Value.string ⟨(rtoa q4).toArray⟩, Value.string ⟨(rtoa q5).toArray⟩, .string ⟨#[48]⟩, .string ⟨#[45, 49]⟩] 27 (0, 0))) ∧ Hid (wq.heap.size ≤ gp ∧ wq.heap.size ≤ gb) ∧ Hid (Below wq.heap.size wq wx))
      case first =>
        refine Go.Front.wpIn_region_front (S := fun V => V.cell? ⟨wr.heap.size, 0, none⟩ = some (.int .i64 x) ∧ V.cell? ⟨wr.heap.size, 1, none⟩ = some (.int .i64 y)) 14 (by kernel_rfl) (by simp) (by kernel_rfl) (by kernel_rfl) (by kernel_rfl) (by kernel_rfl) (by kernel_rfl) ?_ (fun hHeld => ?_)
        · (exact HPC.out _ (by repeat first | assumption | refine Below.drew ?_ | refine Below.nxt ?_ (lal _ _)))
        simp only [List.take_succ_cons, List.take_zero, List.drop_succ_cons, List.drop_zero]
        refine wpAnyH_take (i := 0) (v := ?_) rfl (by kernel_rfl) (by kernel_rfl) (by kernel_rfl) (fun _ _ _ h => h) (Or.inl ⟨by rfl, ?_⟩) hHeld ?_
        rotate_left
        · intro W hSw; (try dsimp only at hSw); go_simp <;> with_reducible rfl
        (try simp only [Act.put, List.setIfInBounds_toArray, List.set_cons_zero, List.set_cons_succ])
        refine wpAnyH_take (i := 1) (v := ?_) rfl (by kernel_rfl) (by kernel_rfl) (by kernel_rfl) (fun _ _ _ h => h) (Or.inl ⟨by rfl, ?_⟩) hHeld ?_
        rotate_left
        · intro W hSw; (try dsimp only at hSw); go_simp <;> with_reducible rfl
        (try simp only [Act.put, List.setIfInBounds_toArray, List.set_cons_zero, List.set_cons_succ])
        refine wpAnyH_take (i := 2) (v := ?_) rfl (by kernel_rfl) (by kernel_rfl) (by kernel_rfl) (fun _ _ _ h => h) (Or.inl ⟨by rfl, ?_⟩) hHeld ?_
        rotate_left
        · intro W hSw; (try dsimp only at hSw); go_simp <;> with_reducible rfl
        (try simp only [Act.put, List.setIfInBounds_toArray, List.set_cons_zero, List.set_cons_succ])
        refine wpAnyH_take (i := 4) (v := ?_) rfl (by kernel_rfl) (by kernel_rfl) (by kernel_rfl) (fun _ _ _ h => h) (Or.inl ⟨by rfl, ?_⟩) hHeld ?_
        rotate_left
        · intro W hSw; (try dsimp only at hSw); go_simp <;> with_reducible rfl
        (try simp only [Act.put, List.setIfInBounds_toArray, List.set_cons_zero, List.set_cons_succ])
        refine wpAnyH_take (i := 5) (v := ?_) rfl (by kernel_rfl) (by kernel_rfl) (by kernel_rfl) (fun _ _ _ h => h) (Or.inl ⟨by rfl, ?_⟩) hHeld ?_
        rotate_left
        · intro W hSw; (try dsimp only at hSw); go_simp <;> with_reducible rfl
        (try simp only [Act.put, List.setIfInBounds_toArray, List.set_cons_zero, List.set_cons_succ])
        refine wpAnyH_take (i := 6) (v := ?_) rfl (by kernel_rfl) (by kernel_rfl) (by kernel_rfl) (fun _ _ _ h => h) (Or.inl ⟨by rfl, ?_⟩) hHeld ?_
        rotate_left
        · intro W hSw; (try dsimp only at hSw); go_simp <;> with_reducible rfl
        (try simp only [Act.put, List.setIfInBounds_toArray, List.set_cons_zero, List.set_cons_succ])
        refine wpAnyH_take (i := 9) (v := ?_) rfl (by kernel_rfl) (by kernel_rfl) (by kernel_rfl) (fun _ _ _ h => h) (Or.inl ⟨by rfl, ?_⟩) hHeld ?_
        rotate_left
        · intro W hSw; (try dsimp only at hSw); go_simp <;> with_reducible rfl
        (try simp only [Act.put, List.setIfInBounds_toArray, List.set_cons_zero, List.set_cons_succ])
        refine wpAnyH_take (i := 10) (v := ?_) rfl (by kernel_rfl) (by kernel_rfl) (by kernel_rfl) (fun _ _ _ h => h) (Or.inl ⟨by rfl, ?_⟩) hHeld ?_
        rotate_left
        · intro W hSw; (try dsimp only at hSw); go_simp <;> with_reducible rfl
        (try simp only [Act.put, List.setIfInBounds_toArray, List.set_cons_zero, List.set_cons_succ])
        refine wpAnyH_ready (rs := [3, 13]) (by kernel_rfl) (by simp) ?_
        refine AllReadyH.cons rfl (fun K hK => ?_) (AllReadyH.cons rfl (fun K hK => ?_) AllReadyH.nil)
        · go_simp
          ((with_reducible refine (HW4.out _ (by repeat first | assumption | refine Below.drew ?_ | refine Below.nxt ?_ (lal _ _))).mono ?_); rintro en v1 ⟨rfl, hb1⟩; have C1 := Below.nxt (a := wq) (by repeat first | assumption | refine Below.drew ?_ | refine Below.nxt ?_ (lal _ _)) hb1; go_simp)
          refine hK.out _ _ ?_ (fun hHeld => ?_)
          · ((try dsimp only); exact HPC.out _ (by repeat first | assumption | refine Below.drew ?_ | refine Below.nxt ?_ (lal _ _)))
          clear hK K
          (try simp only [Act.put, List.setIfInBounds_toArray, List.set_cons_zero, List.set_cons_succ])
          refine wpAnyH_ready (rs := [7, 13]) (by kernel_rfl) (by simp) ?_
          refine AllReadyH.cons rfl (fun K hK => ?_) (AllReadyH.cons rfl (fun K hK => ?_) AllReadyH.nil)
          · go_simp
            ((with_reducible refine (HW5.out _ (by repeat first | assumption | refine Below.drew ?_ | refine Below.nxt ?_ (lal _ _))).mono ?_); rintro en v2 ⟨rfl, hb2⟩; have C2 := Below.nxt (a := wq) (by repeat first | assumption | refine Below.drew ?_ | refine Below.nxt ?_ (lal _ _)) hb2; go_simp)
            refine hK.out _ _ ?_ (fun hHeld => ?_)
            · ((try dsimp only); exact HPC.out _ (by repeat first | assumption | refine Below.drew ?_ | refine Below.nxt ?_ (lal _ _)))
            clear hK K
            (try simp only [Act.put, List.setIfInBounds_toArray, List.set_cons_zero, List.set_cons_succ])
            refine wpAnyH_ready (rs := [8, 11, 13]) (by kernel_rfl) (by simp) ?_
            refine AllReadyH.cons rfl (fun K hK => ?_) (AllReadyH.cons rfl (fun K hK => ?_) (AllReadyH.cons rfl (fun K hK => ?_) AllReadyH.nil))
            · go_simp
              have G3 : wq.heap.size ≤ (v2).heap.size := Below.size (show Below wq.heap.size wq v2 from (by repeat first | assumption | refine Below.drew ?_ | refine Below.nxt ?_ (lal _ _)))
              have C3 := Below.nxt (a := wq) (show Below wq.heap.size wq v2 from (by repeat first | assumption | refine Below.drew ?_ | refine Below.nxt ?_ (lal _ _))) (lal v2 (.cells #[Value.string ⟨(rtoa q4).toArray⟩, Value.string ⟨(rtoa q5).toArray⟩, .string ⟨#[48]⟩, .string ⟨#[45, 49]⟩] 27))
              have Z8_3 := heap_alloc_new v2 (.cells #[Value.string ⟨(rtoa q4).toArray⟩, Value.string ⟨(rtoa q5).toArray⟩, .string ⟨#[48]⟩, .string ⟨#[45, 49]⟩] 27)
              refine hK.out _ (v2.alloc (.cells #[Value.string ⟨(rtoa q4).toArray⟩, Value.string ⟨(rtoa q5).toArray⟩, .string ⟨#[48]⟩, .string ⟨#[45, 49]⟩] 27)) ?_ (fun hHeld => ?_)
              · ((try dsimp only); exact HPC.out _ (by repeat first | assumption | refine Below.drew ?_ | refine Below.nxt ?_ (lal _ _)))
              clear hK K
              (try simp only [Act.put, List.setIfInBounds_toArray, List.set_cons_zero, List.set_cons_succ])
              generalize (v2.alloc (.cells #[Value.string ⟨(rtoa q4).toArray⟩, Value.string ⟨(rtoa q5).toArray⟩, .string ⟨#[48]⟩, .string ⟨#[45, 49]⟩] 27)) = v3 at *
              refine wpAnyH_ready (rs := [11, 13]) (by kernel_rfl) (by simp) ?_
              refine AllReadyH.cons rfl (fun K hK => ?_) (AllReadyH.cons rfl (fun K hK => ?_) AllReadyH.nil)
              · go_simp
                ((with_reducible refine (HW8.out _ (by repeat first | assumption | refine Below.drew ?_ | refine Below.nxt ?_ (lal _ _))).mono ?_); rintro en v4 ⟨rfl, hb4⟩; have C4 := Below.nxt (a := wq) (by repeat first | assumption | refine Below.drew ?_ | refine Below.nxt ?_ (lal _ _)) hb4; go_simp)
                have Z8_4 := keepB Z8_3 hb4
                refine hK.out _ _ ?_ (fun hHeld => ?_)
                · ((try dsimp only); exact HPC.out _ (by repeat first | assumption | refine Below.drew ?_ | refine Below.nxt ?_ (lal _ _)))
                clear hK K
                (try simp only [Act.put, List.setIfInBounds_toArray, List.set_cons_zero, List.set_cons_succ])
                refine wpAnyH_take (i := 12) (v := ?_) rfl (by kernel_rfl) (by kernel_rfl) (by kernel_rfl) (fun _ _ _ h => h) (Or.inl ⟨by rfl, ?_⟩) hHeld ?_
                rotate_left
                · intro W hSw; (try dsimp only at hSw); go_simp <;> with_reducible rfl
                (try simp only [Act.put, List.setIfInBounds_toArray, List.set_cons_zero, List.set_cons_succ])
                refine wpAnyH_ready (rs := [13]) (by kernel_rfl) (by simp) ?_
                refine AllReadyH.cons rfl (fun K hK => ?_) AllReadyH.nil
                · go_simp
                  have G5 : wq.heap.size ≤ (v4).heap.size := Below.size (show Below wq.heap.size wq v4 from (by repeat first | assumption | refine Below.drew ?_ | refine Below.nxt ?_ (lal _ _)))
                  have C5 := Below.nxt (a := wq) (show Below wq.heap.size wq v4 from (by repeat first | assumption | refine Below.drew ?_ | refine Below.nxt ?_ (lal _ _))) (lal v4 (.cells #[.slice none 0 0, .string ⟨#[]⟩] 96))
                  have Z8_5 := keepB Z8_4 (lal v4 (.cells #[.slice none 0 0, .string ⟨#[]⟩] 96))
                  have Z13_5 := heap_alloc_new v4 (.cells #[.slice none 0 0, .string ⟨#[]⟩] 96)
                  refine hK.out _ (v4.alloc (.cells #[.slice none 0 0, .string ⟨#[]⟩] 96)) ?_ (fun hHeld => ?_)
                  · ((try dsimp only); exact HPC.out _ (by repeat first | assumption | refine Below.drew ?_ | refine Below.nxt ?_ (lal _ _)))
                  clear hK K
                  (try simp only [Act.put, List.setIfInBounds_toArray, List.set_cons_zero, List.set_cons_succ])
                  generalize (v4.alloc (.cells #[.slice none 0 0, .string ⟨#[]⟩] 96)) = v5 at *
                  refine wpAnyH_done (by kernel_rfl) ?_ _
                  show wpListIn _ _ _ _ _ _ _ _
                  have hf := fun k => frozen_of_row _ _ k _ _ Z13_5
                  obtain ⟨z0, z1⟩ := c2of Z13_5
                  (try simp only [drew_sz] at hf z0 z1)
                  have L := Lib.hid (fun v0 v1 => leaf_fin (v0 := v0) (v1 := v1) Z13_5 Z8_5 (by decide) (by first | assumption | omega) (show Below wq.heap.size wq v5 from (by repeat first | assumption | refine Below.drew ?_ | refine Below.nxt ?_ (lal _ _))))
                  gi_wp2
                  gi_meet
                  exact ⟨_, _, rfl, Lib.hid (L.out _ _).1, Lib.hid (L.out _ _).2.1, Lib.hid ⟨by first | assumption | omega, by first | assumption | omega⟩, Lib.hid (L.out _ _).2.2⟩
              · go_simp
                have G6 : wq.heap.size ≤ (v3).heap.size := Below.size (show Below wq.heap.size wq v3 from (by repeat first | assumption | refine Below.drew ?_ | refine Below.nxt ?_ (lal _ _)))
                have C6 := Below.nxt (a := wq) (show Below wq.heap.size wq v3 from (by repeat first | assumption | refine Below.drew ?_ | refine Below.nxt ?_ (lal _ _))) (lal v3 (.cells #[.slice none 0 0, .string ⟨#[]⟩] 96))
                have Z8_6 := keepB Z8_3 (lal v3 (.cells #[.slice none 0 0, .string ⟨#[]⟩] 96))
                have Z13_6 := heap_alloc_new v3 (.cells #[.slice none 0 0, .string ⟨#[]⟩] 96)
                refine hK.out _ (v3.alloc (.cells #[.slice none 0 0, .string ⟨#[]⟩] 96)) ?_ (fun hHeld => ?_)
                · ((try dsimp only); exact HPC.out _ (by repeat first | assumption | refine Below.drew ?_ | refine Below.nxt ?_ (lal _ _)))
                clear hK K
                (try simp only [Act.put, List.setIfInBounds_toArray, List.set_cons_zero, List.set_cons_succ])
                generalize (v3.alloc (.cells #[.slice none 0 0, .string ⟨#[]⟩] 96)) = v6 at *
                refine wpAnyH_ready (rs := [11]) (by kernel_rfl) (by simp) ?_
                refine AllReadyH.cons rfl (fun K hK => ?_) AllReadyH.nil
                · go_simp
                  ((with_reducible refine (HW8.out _ (by repeat first | assumption | refine Below.drew ?_ | refine Below.nxt ?_ (lal _ _))).mono ?_); rintro en v7 ⟨rfl, hb7⟩; have C7 := Below.nxt (a := wq) (by repeat first | assumption | refine Below.drew ?_ | refine Below.nxt ?_ (lal _ _)) hb7; go_simp)
                  have Z8_7 := keepB Z8_6 hb7
                  have Z13_7 := keepB Z13_6 hb7
                  refine hK.out _ _ ?_ (fun hHeld => ?_)
                  · ((try dsimp only); exact HPC.out _ (by repeat first | assumption | refine Below.drew ?_ | refine Below.nxt ?_ (lal _ _)))
                  clear hK K
                  (try simp only [Act.put, List.setIfInBounds_toArray, List.set_cons_zero, List.set_cons_succ])
                  refine wpAnyH_take (i := 12) (v := ?_) rfl (by kernel_rfl) (by kernel_rfl) (by kernel_rfl) (fun _ _ _ h => h) (Or.inl ⟨by rfl, ?_⟩) hHeld ?_
                  rotate_left
                  · intro W hSw; (try dsimp only at hSw); go_simp <;> with_reducible rfl
                  (try simp only [Act.put, List.setIfInBounds_toArray, List.set_cons_zero, List.set_cons_succ])
                  refine wpAnyH_done (by kernel_rfl) ?_ _
                  show wpListIn _ _ _ _ _ _ _ _
                  have hf := fun k => frozen_of_row _ _ k _ _ Z13_7
                  obtain ⟨z0, z1⟩ := c2of Z13_7
                  (try simp only [drew_sz] at hf z0 z1)
                  have L := Lib.hid (fun v0 v1 => leaf_fin (v0 := v0) (v1 := v1) Z13_7 Z8_7 (by decide) (by first | assumption | omega) (show Below wq.heap.size wq v7 from (by repeat first | assumption | refine Below.drew ?_ | refine Below.nxt ?_ (lal _ _))))
                  gi_wp2
                  gi_meet
                  exact ⟨_, _, rfl, Lib.hid (L.out _ _).1, Lib.hid (L.out _ _).2.1, Lib.hid ⟨by first | assumption | omega, by first | assumption | omega⟩, Lib.hid (L.out _ _).2.2⟩
            · go_simp
              ((with_reducible refine (HW8.out _ (by repeat first | assumption | refine Below.drew ?_ | refine Below.nxt ?_ (lal _ _))).mono ?_); rintro en v8 ⟨rfl, hb8⟩; have C8 := Below.nxt (a := wq) (by repeat first | assumption | refine Below.drew ?_ | refine Below.nxt ?_ (lal _ _)) hb8; go_simp)
              refine hK.out _ _ ?_ (fun hHeld => ?_)
              · ((try dsimp only); exact HPC.out _ (by repeat first | assumption | refine Below.drew ?_ | refine Below.nxt ?_ (lal _ _)))
              clear hK K
              (try simp only [Act.put, List.setIfInBounds_toArray, List.set_cons_zero, List.set_cons_succ])
              refine wpAnyH_ready (rs := [8, 13]) (by kernel_rfl) (by simp) ?_
              refine AllReadyH.cons rfl (fun K hK => ?_) (AllReadyH.cons rfl (fun K hK => ?_) AllReadyH.nil)
              · go_simp
                have G9 : wq.heap.size ≤ (v8).heap.size := Below.size (show Below wq.heap.size wq v8 from (by repeat first | assumption | refine Below.drew ?_ | refine Below.nxt ?_ (lal _ _)))
                have C9 := Below.nxt (a := wq) (show Below wq.heap.size wq v8 from (by repeat first | assumption | refine Below.drew ?_ | refine Below.nxt ?_ (lal _ _))) (lal v8 (.cells #[Value.string ⟨(rtoa q4).toArray⟩, Value.string ⟨(rtoa q5).toArray⟩, .string ⟨#[48]⟩, .string ⟨#[45, 49]⟩] 27))
                have Z8_9 := heap_alloc_new v8 (.cells #[Value.string ⟨(rtoa q4).toArray⟩, Value.string ⟨(rtoa q5).toArray⟩, .string ⟨#[48]⟩, .string ⟨#[45, 49]⟩] 27)
                refine hK.out _ (v8.alloc (.cells #[Value.string ⟨(rtoa q4).toArray⟩, Value.string ⟨(rtoa q5).toArray⟩, .string ⟨#[48]⟩, .string ⟨#[45, 49]⟩] 27)) ?_ (fun hHeld => ?_)
                · ((try dsimp only); exact HPC.out _ (by repeat first | assumption | refine Below.drew ?_ | refine Below.nxt ?_ (lal _ _)))
                clear hK K
                (try simp only [Act.put, List.setIfInBounds_toArray, List.set_cons_zero, List.set_cons_succ])
                generalize (v8.alloc (.cells #[Value.string ⟨(rtoa q4).toArray⟩, Value.string ⟨(rtoa q5).toArray⟩, .string ⟨#[48]⟩, .string ⟨#[45, 49]⟩] 27)) = v9 at *
                refine wpAnyH_take (i := 12) (v := ?_) rfl (by kernel_rfl) (by kernel_rfl) (by kernel_rfl) (fun _ _ _ h => h) (Or.inl ⟨by rfl, ?_⟩) hHeld ?_
                rotate_left
                · intro W hSw; (try dsimp only at hSw); go_simp <;> with_reducible rfl
                (try simp only [Act.put, List.setIfInBounds_toArray, List.set_cons_zero, List.set_cons_succ])
                refine wpAnyH_ready (rs := [13]) (by kernel_rfl) (by simp) ?_
                refine AllReadyH.cons rfl (fun K hK => ?_) AllReadyH.nil
                · go_simp
                  have G10 : wq.heap.size ≤ (v9).heap.size := Below.size (show Below wq.heap.size wq v9 from (by repeat first | assumption | refine Below.drew ?_ | refine Below.nxt ?_ (lal _ _)))
                  have C10 := Below.nxt (a := wq) (show Below wq.heap.size wq v9 from (by repeat first | assumption | refine Below.drew ?_ | refine Below.nxt ?_ (lal _ _))) (lal v9 (.cells #[.slice none 0 0, .string ⟨#[]⟩] 96))
                  have Z8_10 := keepB Z8_9 (lal v9 (.cells #[.slice none 0 0, .string ⟨#[]⟩] 96))
                  have Z13_10 := heap_alloc_new v9 (.cells #[.slice none 0 0, .string ⟨#[]⟩] 96)
                  refine hK.out _ (v9.alloc (.cells #[.slice none 0 0, .string ⟨#[]⟩] 96)) ?_ (fun hHeld => ?_)
                  · ((try dsimp only); exact HPC.out _ (by repeat first | assumption | refine Below.drew ?_ | refine Below.nxt ?_ (lal _ _)))
                  clear hK K
                  (try simp only [Act.put, List.setIfInBounds_toArray, List.set_cons_zero, List.set_cons_succ])
                  generalize (v9.alloc (.cells #[.slice none 0 0, .string ⟨#[]⟩] 96)) = v10 at *
                  refine wpAnyH_done (by kernel_rfl) ?_ _
                  show wpListIn _ _ _ _ _ _ _ _
                  have hf := fun k => frozen_of_row _ _ k _ _ Z13_10
                  obtain ⟨z0, z1⟩ := c2of Z13_10
                  (try simp only [drew_sz] at hf z0 z1)
                  have L := Lib.hid (fun v0 v1 => leaf_fin (v0 := v0) (v1 := v1) Z13_10 Z8_10 (by decide) (by first | assumption | omega) (show Below wq.heap.size wq v10 from (by repeat first | assumption | refine Below.drew ?_ | refine Below.nxt ?_ (lal _ _))))
                  gi_wp2
                  gi_meet
                  exact ⟨_, _, rfl, Lib.hid (L.out _ _).1, Lib.hid (L.out _ _).2.1, Lib.hid ⟨by first | assumption | omega, by first | assumption | omega⟩, Lib.hid (L.out _ _).2.2⟩
              · go_simp
                have G11 : wq.heap.size ≤ (v8).heap.size := Below.size (show Below wq.heap.size wq v8 from (by repeat first | assumption | refine Below.drew ?_ | refine Below.nxt ?_ (lal _ _)))
                have C11 := Below.nxt (a := wq) (show Below wq.heap.size wq v8 from (by repeat first | assumption | refine Below.drew ?_ | refine Below.nxt ?_ (lal _ _))) (lal v8 (.cells #[.slice none 0 0, .string ⟨#[]⟩] 96))
                have Z13_11 := heap_alloc_new v8 (.cells #[.slice none 0 0, .string ⟨#[]⟩] 96)
                refine hK.out _ (v8.alloc (.cells #[.slice none 0 0, .string ⟨#[]⟩] 96)) ?_ (fun hHeld => ?_)
                · ((try dsimp only); exact HPC.out _ (by repeat first | assumption | refine Below.drew ?_ | refine Below.nxt ?_ (lal _ _)))
                clear hK K
                (try simp only [Act.put, List.setIfInBounds_toArray, List.set_cons_zero, List.set_cons_succ])
                generalize (v8.alloc (.cells #[.slice none 0 0, .string ⟨#[]⟩] 96)) = v11 at *
                refine wpAnyH_ready (rs := [8]) (by kernel_rfl) (by simp) ?_
                refine AllReadyH.cons rfl (fun K hK => ?_) AllReadyH.nil
                · go_simp
                  have G12 : wq.heap.size ≤ (v11).heap.size := Below.size (show Below wq.heap.size wq v11 from (by repeat first | assumption | refine Below.drew ?_ | refine Below.nxt ?_ (lal _ _)))
                  have C12 := Below.nxt (a := wq) (show Below wq.heap.size wq v11 from (by repeat first | assumption | refine Below.drew ?_ | refine Below.nxt ?_ (lal _ _))) (lal v11 (.cells #[Value.string ⟨(rtoa q4).toArray⟩, Value.string ⟨(rtoa q5).toArray⟩, .string ⟨#[48]⟩, .string ⟨#[45, 49]⟩] 27))
                  have Z13_12 := keepB Z13_11 (lal v11 (.cells #[Value.string ⟨(rtoa q4).toArray⟩, Value.string ⟨(rtoa q5).toArray⟩, .string ⟨#[48]⟩, .string ⟨#[45, 49]⟩] 27))
                  have Z8_12 := heap_alloc_new v11 (.cells #[Value.string ⟨(rtoa q4).toArray⟩, Value.string ⟨(rtoa q5).toArray⟩, .string ⟨#[48]⟩, .string ⟨#[45, 49]⟩] 27)
                  refine hK.out _ (v11.alloc (.cells #[Value.string ⟨(rtoa q4).toArray⟩, Value.string ⟨(rtoa q5).toArray⟩, .string ⟨#[48]⟩, .string ⟨#[45, 49]⟩] 27)) ?_ (fun hHeld => ?_)
                  · ((try dsimp only); exact HPC.out _ (by repeat first | assumption | refine Below.drew ?_ | refine Below.nxt ?_ (lal _ _)))
                  clear hK K
                  (try simp only [Act.put, List.setIfInBounds_toArray, List.set_cons_zero, List.set_cons_succ])
                  generalize (v11.alloc (.cells #[Value.string ⟨(rtoa q4).toArray⟩, Value.string ⟨(rtoa q5).toArray⟩, .string ⟨#[48]⟩, .string ⟨#[45, 49]⟩] 27)) = v12 at *
                  refine wpAnyH_take (i := 12) (v := ?_) rfl (by kernel_rfl) (by kernel_rfl) (by kernel_rfl) (fun _ _ _ h => h) (Or.inl ⟨by rfl, ?_⟩) hHeld ?_
                  rotate_left
                  · intro W hSw; (try dsimp only at hSw); go_simp <;> with_reducible rfl
                  (try simp only [Act.put, List.setIfInBounds_toArray, List.set_cons_zero, List.set_cons_succ])
                  refine wpAnyH_done (by kernel_rfl) ?_ _
                  show wpListIn _ _ _ _ _ _ _ _
                  have hf := fun k => frozen_of_row _ _ k _ _ Z13_12
                  obtain ⟨z0, z1⟩ := c2of Z13_12
                  (try simp only [drew_sz] at hf z0 z1)
                  have L := Lib.hid (fun v0 v1 => leaf_fin (v0 := v0) (v1 := v1) Z13_12 Z8_12 (by decide) (by first | assumption | omega) (show Below wq.heap.size wq v12 from (by repeat first | assumption | refine Below.drew ?_ | refine Below.nxt ?_ (lal _ _))))
                  gi_wp2
                  gi_meet
                  exact ⟨_, _, rfl, Lib.hid (L.out _ _).1, Lib.hid (L.out _ _).2.1, Lib.hid ⟨by first | assumption | omega, by first | assumption | omega⟩, Lib.hid (L.out _ _).2.2⟩
            · go_simp
              have G13 : wq.heap.size ≤ (v2).heap.size := Below.size (show Below wq.heap.size wq v2 from (by repeat first | assumption | refine Below.drew ?_ | refine Below.nxt ?_ (lal _ _)))
              have C13 := Below.nxt (a := wq) (show Below wq.heap.size wq v2 from (by repeat first | assumption | refine Below.drew ?_ | refine Below.nxt ?_ (lal _ _))) (lal v2 (.cells #[.slice none 0 0, .string ⟨#[]⟩] 96))
              have Z13_13 := heap_alloc_new v2 (.cells #[.slice none 0 0, .string ⟨#[]⟩] 96)
              refine hK.out _ (v2.alloc (.cells #[.slice none 0 0, .string ⟨#[]⟩] 96)) ?_ (fun hHeld => ?_)
              · ((try dsimp only); exact HPC.out _ (by repeat first | assumption | refine Below.drew ?_ | refine Below.nxt ?_ (lal _ _)))
              clear hK K
              (try simp only [Act.put, List.setIfInBounds_toArray, List.set_cons_zero, List.set_cons_succ])
              generalize (v2.alloc (.cells #[.slice none 0 0, .string ⟨#[]⟩] 96)) = v13 at *
              refine wpAnyH_ready (rs := [8, 11]) (by kernel_rfl) (by simp) ?_
              refine AllReadyH.cons rfl (fun K hK => ?_) (AllReadyH.cons rfl (fun K hK => ?_) AllReadyH.nil)
              · go_simp
                have G14 : wq.heap.size ≤ (v13).heap.size := Below.size (show Below wq.heap.size wq v13 from (by repeat first | assumption | refine Below.drew ?_ | refine Below.nxt ?_ (lal _ _)))
                have C14 := Below.nxt (a := wq) (show Below wq.heap.size wq v13 from (by repeat first | assumption | refine Below.drew ?_ | refine Below.nxt ?_ (lal _ _))) (lal v13 (.cells #[Value.string ⟨(rtoa q4).toArray⟩, Value.string ⟨(rtoa q5).toArray⟩, .string ⟨#[48]⟩, .string ⟨#[45, 49]⟩] 27))
                have Z13_14 := keepB Z13_13 (lal v13 (.cells #[Value.string ⟨(rtoa q4).toArray⟩, Value.string ⟨(rtoa q5).toArray⟩, .string ⟨#[48]⟩, .string ⟨#[45, 49]⟩] 27))
                have Z8_14 := heap_alloc_new v13 (.cells #[Value.string ⟨(rtoa q4).toArray⟩, Value.string ⟨(rtoa q5).toArray⟩, .string ⟨#[48]⟩, .string ⟨#[45, 49]⟩] 27)
                refine hK.out _ (v13.alloc (.cells #[Value.string ⟨(rtoa q4).toArray⟩, Value.string ⟨(rtoa q5).toArray⟩, .string ⟨#[48]⟩, .string ⟨#[45, 49]⟩] 27)) ?_ (fun hHeld => ?_)
                · ((try dsimp only); exact HPC.out _ (by repeat first | assumption | refine Below.drew ?_ | refine Below.nxt ?_ (lal _ _)))
                clear hK K
                (try simp only [Act.put, List.setIfInBounds_toArray, List.set_cons_zero, List.set_cons_succ])
                generalize (v13.alloc (.cells #[Value.string ⟨(rtoa q4).toArray⟩, Value.string ⟨(rtoa q5).toArray⟩, .string ⟨#[48]⟩, .string ⟨#[45, 49]⟩] 27)) = v14 at *
                refine wpAnyH_ready (rs := [11]) (by kernel_rfl) (by simp) ?_
                refine AllReadyH.cons rfl (fun K hK => ?_) AllReadyH.nil
                · go_simp
                  ((with_reducible refine (HW8.out _ (by repeat first | assumption | refine Below.drew ?_ | refine Below.nxt ?_ (lal _ _))).mono ?_); rintro en v15 ⟨rfl, hb15⟩; have C15 := Below.nxt (a := wq) (by repeat first | assumption | refine Below.drew ?_ | refine Below.nxt ?_ (lal _ _)) hb15; go_simp)
                  have Z13_15 := keepB Z13_14 hb15
                  have Z8_15 := keepB Z8_14 hb15
                  refine hK.out _ _ ?_ (fun hHeld => ?_)
                  · ((try dsimp only); exact HPC.out _ (by repeat first | assumption | refine Below.drew ?_ | refine Below.nxt ?_ (lal _ _)))
                  clear hK K
                  (try simp only [Act.put, List.setIfInBounds_toArray, List.set_cons_zero, List.set_cons_succ])
                  refine wpAnyH_take (i := 12) (v := ?_) rfl (by kernel_rfl) (by kernel_rfl) (by kernel_rfl) (fun _ _ _ h => h) (Or.inl ⟨by rfl, ?_⟩) hHeld ?_
                  rotate_left
                  · intro W hSw; (try dsimp only at hSw); go_simp <;> with_reducible rfl
                  (try simp only [Act.put, List.setIfInBounds_toArray, List.set_cons_zero, List.set_cons_succ])
                  refine wpAnyH_done (by kernel_rfl) ?_ _
                  show wpListIn _ _ _ _ _ _ _ _
                  have hf := fun k => frozen_of_row _ _ k _ _ Z13_15
                  obtain ⟨z0, z1⟩ := c2of Z13_15
                  (try simp only [drew_sz] at hf z0 z1)
                  have L := Lib.hid (fun v0 v1 => leaf_fin (v0 := v0) (v1 := v1) Z13_15 Z8_15 (by decide) (by first | assumption | omega) (show Below wq.heap.size wq v15 from (by repeat first | assumption | refine Below.drew ?_ | refine Below.nxt ?_ (lal _ _))))
                  gi_wp2
                  gi_meet
                  exact ⟨_, _, rfl, Lib.hid (L.out _ _).1, Lib.hid (L.out _ _).2.1, Lib.hid ⟨by first | assumption | omega, by first | assumption | omega⟩, Lib.hid (L.out _ _).2.2⟩
              · go_simp
                ((with_reducible refine (HW8.out _ (by repeat first | assumption | refine Below.drew ?_ | refine Below.nxt ?_ (lal _ _))).mono ?_); rintro en v16 ⟨rfl, hb16⟩; have C16 := Below.nxt (a := wq) (by repeat first | assumption | refine Below.drew ?_ | refine Below.nxt ?_ (lal _ _)) hb16; go_simp)
                have Z13_16 := keepB Z13_13 hb16
                refine hK.out _ _ ?_ (fun hHeld => ?_)
                · ((try dsimp only); exact HPC.out _ (by repeat first | assumption | refine Below.drew ?_ | refine Below.nxt ?_ (lal _ _)))
                clear hK K
                (try simp only [Act.put, List.setIfInBounds_toArray, List.set_cons_zero, List.set_cons_succ])
                refine wpAnyH_ready (rs := [8]) (by kernel_rfl) (by simp) ?_
                refine AllReadyH.cons rfl (fun K hK => ?_) AllReadyH.nil
                · go_simp
                  have G17 : wq.heap.size ≤ (v16).heap.size := Below.size (show Below wq.heap.size wq v16 from (by repeat first | assumption | refine Below.drew ?_ | refine Below.nxt ?_ (lal _ _)))
                  have C17 := Below.nxt (a := wq) (show Below wq.heap.size wq v16 from (by repeat first | assumption | refine Below.drew ?_ | refine Below.nxt ?_ (lal _ _))) (lal v16 (.cells #[Value.string ⟨(rtoa q4).toArray⟩, Value.string ⟨(rtoa q5).toArray⟩, .string ⟨#[48]⟩, .string ⟨#[45, 49]⟩] 27))
                  have Z13_17 := keepB Z13_16 (lal v16 (.cells #[Value.string ⟨(rtoa q4).toArray⟩, Value.string ⟨(rtoa q5).toArray⟩, .string ⟨#[48]⟩, .string ⟨#[45, 49]⟩] 27))
                  have Z8_17 := heap_alloc_new v16 (.cells #[Value.string ⟨(rtoa q4).toArray⟩, Value.string ⟨(rtoa q5).toArray⟩, .string ⟨#[48]⟩, .string ⟨#[45, 49]⟩] 27)
                  refine hK.out _ (v16.alloc (.cells #[Value.string ⟨(rtoa q4).toArray⟩, Value.string ⟨(rtoa q5).toArray⟩, .string ⟨#[48]⟩, .string ⟨#[45, 49]⟩] 27)) ?_ (fun hHeld => ?_)
                  · ((try dsimp only); exact HPC.out _ (by repeat first | assumption | refine Below.drew ?_ | refine Below.nxt ?_ (lal _ _)))
                  clear hK K
                  (try simp only [Act.put, List.setIfInBounds_toArray, List.set_cons_zero, List.set_cons_succ])
                  generalize (v16.alloc (.cells #[Value.string ⟨(rtoa q4).toArray⟩, Value.string ⟨(rtoa q5).toArray⟩, .string ⟨#[48]⟩, .string ⟨#[45, 49]⟩] 27)) = v17 at *
                  refine wpAnyH_take (i := 12) (v := ?_) rfl (by kernel_rfl) (by kernel_rfl) (by kernel_rfl) (fun _ _ _ h => h) (Or.inl ⟨by rfl, ?_⟩) hHeld ?_
                  rotate_left
                  · intro W hSw; (try dsimp only at hSw); go_simp <;> with_reducible rfl
                  (try simp only [Act.put, List.setIfInBounds_toArray, List.set_cons_zero, List.set_cons_succ])
                  refine wpAnyH_done (by kernel_rfl) ?_ _
                  show wpListIn _ _ _ _ _ _ _ _
                  have hf := fun k => frozen_of_row _ _ k _ _ Z13_17
                  obtain ⟨z0, z1⟩ := c2of Z13_17
                  (try simp only [drew_sz] at hf z0 z1)
                  have L := Lib.hid (fun v0 v1 => leaf_fin (v0 := v0) (v1 := v1) Z13_17 Z8_17 (by decide) (by first | assumption | omega) (show Below wq.heap.size wq v17 from (by repeat first | assumption | refine Below.drew ?_ | refine Below.nxt ?_ (lal _ _))))
                  gi_wp2
                  gi_meet
                  exact ⟨_, _, rfl, Lib.hid (L.out _ _).1, Lib.hid (L.out _ _).2.1, Lib.hid ⟨by first | assumption | omega, by first | assumption | omega⟩, Lib.hid (L.out _ _).2.2⟩
          · go_simp
            have G18 : wq.heap.size ≤ (v1).heap.size := Below.size (show Below wq.heap.size wq v1 from (by repeat first | assumption | refine Below.drew ?_ | refine Below.nxt ?_ (lal _ _)))
            have C18 := Below.nxt (a := wq) (show Below wq.heap.size wq v1 from (by repeat first | assumption | refine Below.drew ?_ | refine Below.nxt ?_ (lal _ _))) (lal v1 (.cells #[.slice none 0 0, .string ⟨#[]⟩] 96))
            have Z13_18 := heap_alloc_new v1 (.cells #[.slice none 0 0, .string ⟨#[]⟩] 96)
            refine hK.out _ (v1.alloc (.cells #[.slice none 0 0, .string ⟨#[]⟩] 96)) ?_ (fun hHeld => ?_)
            · ((try dsimp only); exact HPC.out _ (by repeat first | assumption | refine Below.drew ?_ | refine Below.nxt ?_ (lal _ _)))
            clear hK K
            (try simp only [Act.put, List.setIfInBounds_toArray, List.set_cons_zero, List.set_cons_succ])
            generalize (v1.alloc (.cells #[.slice none 0 0, .string ⟨#[]⟩] 96)) = v18 at *
            refine wpAnyH_ready (rs := [7]) (by kernel_rfl) (by simp) ?_
            refine AllReadyH.cons rfl (fun K hK => ?_) AllReadyH.nil
            · go_simp
              ((with_reducible refine (HW5.out _ (by repeat first | assumption | refine Below.drew ?_ | refine Below.nxt ?_ (lal _ _))).mono ?_); rintro en v19 ⟨rfl, hb19⟩; have C19 := Below.nxt (a := wq) (by repeat first | assumption | refine Below.drew ?_ | refine Below.nxt ?_ (lal _ _)) hb19; go_simp)
              have Z13_19 := keepB Z13_18 hb19
              refine hK.out _ _ ?_ (fun hHeld => ?_)
              · ((try dsimp only); exact HPC.out _ (by repeat first | assumption | refine Below.drew ?_ | refine Below.nxt ?_ (lal _ _)))
              clear hK K
              (try simp only [Act.put, List.setIfInBounds_toArray, List.set_cons_zero, List.set_cons_succ])
              refine wpAnyH_ready (rs := [8, 11]) (by kernel_rfl) (by simp) ?_
              refine AllReadyH.cons rfl (fun K hK => ?_) (AllReadyH.cons rfl (fun K hK => ?_) AllReadyH.nil)
              · go_simp
                have G20 : wq.heap.size ≤ (v19).heap.size := Below.size (show Below wq.heap.size wq v19 from (by repeat first | assumption | refine Below.drew ?_ | refine Below.nxt ?_ (lal _ _)))
                have C20 := Below.nxt (a := wq) (show Below wq.heap.size wq v19 from (by repeat first | assumption | refine Below.drew ?_ | refine Below.nxt ?_ (lal _ _))) (lal v19 (.cells #[Value.string ⟨(rtoa q4).toArray⟩, Value.string ⟨(rtoa q5).toArray⟩, .string ⟨#[48]⟩, .string ⟨#[45, 49]⟩] 27))
                have Z13_20 := keepB Z13_19 (lal v19 (.cells #[Value.string ⟨(rtoa q4).toArray⟩, Value.string ⟨(rtoa q5).toArray⟩, .string ⟨#[48]⟩, .string ⟨#[45, 49]⟩] 27))
                have Z8_20 := heap_alloc_new v19 (.cells #[Value.string ⟨(rtoa q4).toArray⟩, Value.string ⟨(rtoa q5).toArray⟩, .string ⟨#[48]⟩, .string ⟨#[45, 49]⟩] 27)
                refine hK.out _ (v19.alloc (.cells #[Value.string ⟨(rtoa q4).toArray⟩, Value.string ⟨(rtoa q5).toArray⟩, .string ⟨#[48]⟩, .string ⟨#[45, 49]⟩] 27)) ?_ (fun hHeld => ?_)
                · ((try dsimp only); exact HPC.out _ (by repeat first | assumption | refine Below.drew ?_ | refine Below.nxt ?_ (lal _ _)))
                clear hK K
                (try simp only [Act.put, List.setIfInBounds_toArray, List.set_cons_zero, List.set_cons_succ])
                generalize (v19.alloc (.cells #[Value.string ⟨(rtoa q4).toArray⟩, Value.string ⟨(rtoa q5).toArray⟩, .string ⟨#[48]⟩, .string ⟨#[45, 49]⟩] 27)) = v20 at *
                refine wpAnyH_ready (rs := [11]) (by kernel_rfl) (by simp) ?_
                refine AllReadyH.cons rfl (fun K hK => ?_) AllReadyH.nil
                · go_simp
                  ((with_reducible refine (HW8.out _ (by repeat first | assumption | refine Below.drew ?_ | refine Below.nxt ?_ (lal _ _))).mono ?_); rintro en v21 ⟨rfl, hb21⟩; have C21 := Below.nxt (a := wq) (by repeat first | assumption | refine Below.drew ?_ | refine Below.nxt ?_ (lal _ _)) hb21; go_simp)
                  have Z13_21 := keepB Z13_20 hb21
                  have Z8_21 := keepB Z8_20 hb21
                  refine hK.out _ _ ?_ (fun hHeld => ?_)
                  · ((try dsimp only); exact HPC.out _ (by repeat first | assumption | refine Below.drew ?_ | refine Below.nxt ?_ (lal _ _)))
                  clear hK K
                  (try simp only [Act.put, List.setIfInBounds_toArray, List.set_cons_zero, List.set_cons_succ])
                  refine wpAnyH_take (i := 12) (v := ?_) rfl (by kernel_rfl) (by kernel_rfl) (by kernel_rfl) (fun _ _ _ h => h) (Or.inl ⟨by rfl, ?_⟩) hHeld ?_
                  rotate_left
                  · intro W hSw; (try dsimp only at hSw); go_simp <;> with_reducible rfl
                  (try simp only [Act.put, List.setIfInBounds_toArray, List.set_cons_zero, List.set_cons_succ])
                  refine wpAnyH_done (by kernel_rfl) ?_ _
                  show wpListIn _ _ _ _ _ _ _ _
                  have hf := fun k => frozen_of_row _ _ k _ _ Z13_21
                  obtain ⟨z0, z1⟩ := c2of Z13_21
                  (try simp only [drew_sz] at hf z0 z1)
                  have L := Lib.hid (fun v0 v1 => leaf_fin (v0 := v0) (v1 := v1) Z13_21 Z8_21 (by decide) (by first | assumption | omega) (show Below wq.heap.size wq v21 from (by repeat first | assumption | refine Below.drew ?_ | refine Below.nxt ?_ (lal _ _))))
                  gi_wp2
                  gi_meet
                  exact ⟨_, _, rfl, Lib.hid (L.out _ _).1, Lib.hid (L.out _ _).2.1, Lib.hid ⟨by first | assumption | omega, by first | assumption | omega⟩, Lib.hid (L.out _ _).2.2⟩
              · go_simp
                ((with_reducible refine (HW8.out _ (by repeat first | assumption | refine Below.drew ?_ | refine Below.nxt ?_ (lal _ _))).mono ?_); rintro en v22 ⟨rfl, hb22⟩; have C22 := Below.nxt (a := wq) (by repeat first | assumption | refine Below.drew ?_ | refine Below.nxt ?_ (lal _ _)) hb22; go_simp)
                have Z13_22 := keepB Z13_19 hb22
                refine hK.out _ _ ?_ (fun hHeld => ?_)
                · ((try dsimp only); exact HPC.out _ (by repeat first | assumption | refine Below.drew ?_ | refine Below.nxt ?_ (lal _ _)))
                clear hK K
                (try simp only [Act.put, List.setIfInBounds_toArray, List.set_cons_zero, List.set_cons_succ])
                refine wpAnyH_ready (rs := [8]) (by kernel_rfl) (by simp) ?_
                refine AllReadyH.cons rfl (fun K hK => ?_) AllReadyH.nil
                · go_simp
                  have G23 : wq.heap.size ≤ (v22).heap.size := Below.size (show Below wq.heap.size wq v22 from (by repeat first | assumption | refine Below.drew ?_ | refine Below.nxt ?_ (lal _ _)))
                  have C23 := Below.nxt (a := wq) (show Below wq.heap.size wq v22 from (by repeat first | assumption | refine Below.drew ?_ | refine Below.nxt ?_ (lal _ _))) (lal v22 (.cells #[Value.string ⟨(rtoa q4).toArray⟩, Value.string ⟨(rtoa q5).toArray⟩, .string ⟨#[48]⟩, .string ⟨#[45, 49]⟩] 27))
                  have Z13_23 := keepB Z13_22 (lal v22 (.cells #[Value.string ⟨(rtoa q4).toArray⟩, Value.string ⟨(rtoa q5).toArray⟩, .string ⟨#[48]⟩, .string ⟨#[45, 49]⟩] 27))
                  have Z8_23 := heap_alloc_new v22 (.cells #[Value.string ⟨(rtoa q4).toArray⟩, Value.string ⟨(rtoa q5).toArray⟩, .string ⟨#[48]⟩, .string ⟨#[45, 49]⟩] 27)
                  refine hK.out _ (v22.alloc (.cells #[Value.string ⟨(rtoa q4).toArray⟩, Value.string ⟨(rtoa q5).toArray⟩, .string ⟨#[48]⟩, .string ⟨#[45, 49]⟩] 27)) ?_ (fun hHeld => ?_)
                  · ((try dsimp only); exact HPC.out _ (by repeat first | assumption | refine Below.drew ?_ | refine Below.nxt ?_ (lal _ _)))
                  clear hK K
                  (try simp only [Act.put, List.setIfInBounds_toArray, List.set_cons_zero, List.set_cons_succ])
                  generalize (v22.alloc (.cells #[Value.string ⟨(rtoa q4).toArray⟩, Value.string ⟨(rtoa q5).toArray⟩, .string ⟨#[48]⟩, .string ⟨#[45, 49]⟩] 27)) = v23 at *
                  refine wpAnyH_take (i := 12) (v := ?_) rfl (by kernel_rfl) (by kernel_rfl) (by kernel_rfl) (fun _ _ _ h => h) (Or.inl ⟨by rfl, ?_⟩) hHeld ?_
                  rotate_left
                  · intro W hSw; (try dsimp only at hSw); go_simp <;> with_reducible rfl
                  (try simp only [Act.put, List.setIfInBounds_toArray, List.set_cons_zero, List.set_cons_succ])
                  refine wpAnyH_done (by kernel_rfl) ?_ _
                  show wpListIn _ _ _ _ _ _ _ _
                  have hf := fun k => frozen_of_row _ _ k _ _ Z13_23
                  obtain ⟨z0, z1⟩ := c2of Z13_23
                  (try simp only [drew_sz] at hf z0 z1)
                  have L := Lib.hid (fun v0 v1 => leaf_fin (v0 := v0) (v1 := v1) Z13_23 Z8_23 (by decide) (by first | assumption | omega) (show Below wq.heap.size wq v23 from (by repeat first | assumption | refine Below.drew ?_ | refine Below.nxt ?_ (lal _ _))))
                  gi_wp2
                  gi_meet
                  exact ⟨_, _, rfl, Lib.hid (L.out _ _).1, Lib.hid (L.out _ _).2.1, Lib.hid ⟨by first | assumption | omega, by first | assumption | omega⟩, Lib.hid (L.out _ _).2.2⟩
        · go_simp
          have G24 : wq.heap.size ≤ (wq.drew).heap.size := Below.size (show Below wq.heap.size wq wq.drew from (by repeat first | assumption | refine Below.drew ?_ | refine Below.nxt ?_ (lal _ _)))
          have C24 := Below.nxt (a := wq) (show Below wq.heap.size wq wq.drew from (by repeat first | assumption | refine Below.drew ?_ | refine Below.nxt ?_ (lal _ _))) (lal wq.drew (.cells #[.slice none 0 0, .string ⟨#[]⟩] 96))
          have Z13_24 := heap_alloc_new wq.drew (.cells #[.slice none 0 0, .string ⟨#[]⟩] 96)
          refine hK.out _ (wq.drew.alloc (.cells #[.slice none 0 0, .string ⟨#[]⟩] 96)) ?_ (fun hHeld => ?_)
          · ((try dsimp only); exact HPC.out _ (by repeat first | assumption | refine Below.drew ?_ | refine Below.nxt ?_ (lal _ _)))
          clear hK K
          (try simp only [Act.put, List.setIfInBounds_toArray, List.set_cons_zero, List.set_cons_succ])
          generalize (wq.drew.alloc (.cells #[.slice none 0 0, .string ⟨#[]⟩] 96)) = v24 at *
          refine wpAnyH_ready (rs := [3]) (by kernel_rfl) (by simp) ?_
          refine AllReadyH.cons rfl (fun K hK => ?_) AllReadyH.nil
          · go_simp
            ((with_reducible refine (HW4.out _ (by repeat first | assumption | refine Below.drew ?_ | refine Below.nxt ?_ (lal _ _))).mono ?_); rintro en v25 ⟨rfl, hb25⟩; have C25 := Below.nxt (a := wq) (by repeat first | assumption | refine Below.drew ?_ | refine Below.nxt ?_ (lal _ _)) hb25; go_simp)
            have Z13_25 := keepB Z13_24 hb25
            refine hK.out _ _ ?_ (fun hHeld => ?_)
            · ((try dsimp only); exact HPC.out _ (by repeat first | assumption | refine Below.drew ?_ | refine Below.nxt ?_ (lal _ _)))
            clear hK K
            (try simp only [Act.put, List.setIfInBounds_toArray, List.set_cons_zero, List.set_cons_succ])
            refine wpAnyH_ready (rs := [7]) (by kernel_rfl) (by simp) ?_
            refine AllReadyH.cons rfl (fun K hK => ?_) AllReadyH.nil
            · go_simp
              ((with_reducible refine (HW5.out _ (by repeat first | assumption | refine Below.drew ?_ | refine Below.nxt ?_ (lal _ _))).mono ?_); rintro en v26 ⟨rfl, hb26⟩; have C26 := Below.nxt (a := wq) (by repeat first | assumption | refine Below.drew ?_ | refine Below.nxt ?_ (lal _ _)) hb26; go_simp)
              have Z13_26 := keepB Z13_25 hb26
              refine hK.out _ _ ?_ (fun hHeld => ?_)
              · ((try dsimp only); exact HPC.out _ (by repeat first | assumption | refine Below.drew ?_ | refine Below.nxt ?_ (lal _ _)))
              clear hK K
              (try simp only [Act.put, List.setIfInBounds_toArray, List.set_cons_zero, List.set_cons_succ])
              refine wpAnyH_ready (rs := [8, 11]) (by kernel_rfl) (by simp) ?_
              refine AllReadyH.cons rfl (fun K hK => ?_) (AllReadyH.cons rfl (fun K hK => ?_) AllReadyH.nil)
              · go_simp
                have G27 : wq.heap.size ≤ (v26).heap.size := Below.size (show Below wq.heap.size wq v26 from (by repeat first | assumption | refine Below.drew ?_ | refine Below.nxt ?_ (lal _ _)))
                have C27 := Below.nxt (a := wq) (show Below wq.heap.size wq v26 from (by repeat first | assumption | refine Below.drew ?_ | refine Below.nxt ?_ (lal _ _))) (lal v26 (.cells #[Value.string ⟨(rtoa q4).toArray⟩, Value.string ⟨(rtoa q5).toArray⟩, .string ⟨#[48]⟩, .string ⟨#[45, 49]⟩] 27))
                have Z13_27 := keepB Z13_26 (lal v26 (.cells #[Value.string ⟨(rtoa q4).toArray⟩, Value.string ⟨(rtoa q5).toArray⟩, .string ⟨#[48]⟩, .string ⟨#[45, 49]⟩] 27))
                have Z8_27 := heap_alloc_new v26 (.cells #[Value.string ⟨(rtoa q4).toArray⟩, Value.string ⟨(rtoa q5).toArray⟩, .string ⟨#[48]⟩, .string ⟨#[45, 49]⟩] 27)
                refine hK.out _ (v26.alloc (.cells #[Value.string ⟨(rtoa q4).toArray⟩, Value.string ⟨(rtoa q5).toArray⟩, .string ⟨#[48]⟩, .string ⟨#[45, 49]⟩] 27)) ?_ (fun hHeld => ?_)
                · ((try dsimp only); exact HPC.out _ (by repeat first | assumption | refine Below.drew ?_ | refine Below.nxt ?_ (lal _ _)))
                clear hK K
                (try simp only [Act.put, List.setIfInBounds_toArray, List.set_cons_zero, List.set_cons_succ])
                generalize (v26.alloc (.cells #[Value.string ⟨(rtoa q4).toArray⟩, Value.string ⟨(rtoa q5).toArray⟩, .string ⟨#[48]⟩, .string ⟨#[45, 49]⟩] 27)) = v27 at *
                refine wpAnyH_ready (rs := [11]) (by kernel_rfl) (by simp) ?_
                refine AllReadyH.cons rfl (fun K hK => ?_) AllReadyH.nil
                · go_simp
                  ((with_reducible refine (HW8.out _ (by repeat first | assumption | refine Below.drew ?_ | refine Below.nxt ?_ (lal _ _))).mono ?_); rintro en v28 ⟨rfl, hb28⟩; have C28 := Below.nxt (a := wq) (by repeat first | assumption | refine Below.drew ?_ | refine Below.nxt ?_ (lal _ _)) hb28; go_simp)
                  have Z13_28 := keepB Z13_27 hb28
                  have Z8_28 := keepB Z8_27 hb28
                  refine hK.out _ _ ?_ (fun hHeld => ?_)
                  · ((try dsimp only); exact HPC.out _ (by repeat first | assumption | refine Below.drew ?_ | refine Below.nxt ?_ (lal _ _)))
                  clear hK K
                  (try simp only [Act.put, List.setIfInBounds_toArray, List.set_cons_zero, List.set_cons_succ])
                  refine wpAnyH_take (i := 12) (v := ?_) rfl (by kernel_rfl) (by kernel_rfl) (by kernel_rfl) (fun _ _ _ h => h) (Or.inl ⟨by rfl, ?_⟩) hHeld ?_
                  rotate_left
                  · intro W hSw; (try dsimp only at hSw); go_simp <;> with_reducible rfl
                  (try simp only [Act.put, List.setIfInBounds_toArray, List.set_cons_zero, List.set_cons_succ])
                  refine wpAnyH_done (by kernel_rfl) ?_ _
                  show wpListIn _ _ _ _ _ _ _ _
                  have hf := fun k => frozen_of_row _ _ k _ _ Z13_28
                  obtain ⟨z0, z1⟩ := c2of Z13_28
                  (try simp only [drew_sz] at hf z0 z1)
                  have L := Lib.hid (fun v0 v1 => leaf_fin (v0 := v0) (v1 := v1) Z13_28 Z8_28 (by decide) (by first | assumption | omega) (show Below wq.heap.size wq v28 from (by repeat first | assumption | refine Below.drew ?_ | refine Below.nxt ?_ (lal _ _))))
                  gi_wp2
                  gi_meet
                  exact ⟨_, _, rfl, Lib.hid (L.out _ _).1, Lib.hid (L.out _ _).2.1, Lib.hid ⟨by first | assumption | omega, by first | assumption | omega⟩, Lib.hid (L.out _ _).2.2⟩
              · go_simp
                ((with_reducible refine (HW8.out _ (by repeat first | assumption | refine Below.drew ?_ | refine Below.nxt ?_ (lal _ _))).mono ?_); rintro en v29 ⟨rfl, hb29⟩; have C29 := Below.nxt (a := wq) (by repeat first | assumption | refine Below.drew ?_ | refine Below.nxt ?_ (lal _ _)) hb29; go_simp)
                have Z13_29 := keepB Z13_26 hb29
                refine hK.out _ _ ?_ (fun hHeld => ?_)
                · ((try dsimp only); exact HPC.out _ (by repeat first | assumption | refine Below.drew ?_ | refine Below.nxt ?_ (lal _ _)))
                clear hK K
                (try simp only [Act.put, List.setIfInBounds_toArray, List.set_cons_zero, List.set_cons_succ])
                refine wpAnyH_ready (rs := [8]) (by kernel_rfl) (by simp) ?_
                refine AllReadyH.cons rfl (fun K hK => ?_) AllReadyH.nil
                · go_simp
                  have G30 : wq.heap.size ≤ (v29).heap.size := Below.size (show Below wq.heap.size wq v29 from (by repeat first | assumption | refine Below.drew ?_ | refine Below.nxt ?_ (lal _ _)))
                  have C30 := Below.nxt (a := wq) (show Below wq.heap.size wq v29 from (by repeat first | assumption | refine Below.drew ?_ | refine Below.nxt ?_ (lal _ _))) (lal v29 (.cells #[Value.string ⟨(rtoa q4).toArray⟩, Value.string ⟨(rtoa q5).toArray⟩, .string ⟨#[48]⟩, .string ⟨#[45, 49]⟩] 27))
                  have Z13_30 := keepB Z13_29 (lal v29 (.cells #[Value.string ⟨(rtoa q4).toArray⟩, Value.string ⟨(rtoa q5).toArray⟩, .string ⟨#[48]⟩, .string ⟨#[45, 49]⟩] 27))
                  have Z8_30 := heap_alloc_new v29 (.cells #[Value.string ⟨(rtoa q4).toArray⟩, Value.string ⟨(rtoa q5).toArray⟩, .string ⟨#[48]⟩, .string ⟨#[45, 49]⟩] 27)
                  refine hK.out _ (v29.alloc (.cells #[Value.string ⟨(rtoa q4).toArray⟩, Value.string ⟨(rtoa q5).toArray⟩, .string ⟨#[48]⟩, .string ⟨#[45, 49]⟩] 27)) ?_ (fun hHeld => ?_)
                  · ((try dsimp only); exact HPC.out _ (by repeat first | assumption | refine Below.drew ?_ | refine Below.nxt ?_ (lal _ _)))
                  clear hK K
                  (try simp only [Act.put, List.setIfInBounds_toArray, List.set_cons_zero, List.set_cons_succ])
                  generalize (v29.alloc (.cells #[Value.string ⟨(rtoa q4).toArray⟩, Value.string ⟨(rtoa q5).toArray⟩, .string ⟨#[48]⟩, .string ⟨#[45, 49]⟩] 27)) = v30 at *
                  refine wpAnyH_take (i := 12) (v := ?_) rfl (by kernel_rfl) (by kernel_rfl) (by kernel_rfl) (fun _ _ _ h => h) (Or.inl ⟨by rfl, ?_⟩) hHeld ?_
                  rotate_left
                  · intro W hSw; (try dsimp only at hSw); go_simp <;> with_reducible rfl
                  (try simp only [Act.put, List.setIfInBounds_toArray, List.set_cons_zero, List.set_cons_succ])
                  refine wpAnyH_done (by kernel_rfl) ?_ _
                  show wpListIn _ _ _ _ _ _ _ _
                  have hf := fun k => frozen_of_row _ _ k _ _ Z13_30
                  obtain ⟨z0, z1⟩ := c2of Z13_30
                  (try simp only [drew_sz] at hf z0 z1)
                  have L := Lib.hid (fun v0 v1 => leaf_fin (v0 := v0) (v1 := v1) Z13_30 Z8_30 (by decide) (by first | assumption | omega) (show Below wq.heap.size wq v30 from (by repeat first | assumption | refine Below.drew ?_ | refine Below.nxt ?_ (lal _ _))))
                  gi_wp2
                  gi_meet
                  exact ⟨_, _, rfl, Lib.hid (L.out _ _).1, Lib.hid (L.out _ _).2.1, Lib.hid ⟨by first | assumption | omega, by first | assumption | omega⟩, Lib.hid (L.out _ _).2.2⟩
      case rest =>
      obtain ⟨g1, g2, rfl, HA1, HA2, -, HAB⟩ := hcut
      generalize wc = w5 at *
      have HV4 := Lib.hid (fun W (h : Below w5.heap.size w5 W) => HX4.out W (HAB.out.nxt h))
      have HV5 := Lib.hid (fun W (h : Below w5.heap.size w5 W) => HX5.out W (HAB.out.nxt h))
      have HV8 := Lib.hid (fun W (h : Below w5.heap.size w5 W) => HX8.out W (HAB.out.nxt h))
      have HPC5 := Lib.hid (fun W (h : Below w5.heap.size w5 W) => HPC.out W (HAB.out.nxt h))
      clear HW4 HW5 HW8 HX4 HX5 HX8 hq HPC
      have HPC := HPC5
      clear HPC5
      have hq5 := Below.refl w5.heap.size w5
      gi_upto_region 5 with fail
      gi_cut [7] from 38 (fun s7 wx => ∃ gp gb : Nat, s7 = .pointer (some ⟨gp, 0, none⟩) ∧ Hid (wx.heap[gp]? = some (.cells #[.slice (some ⟨gb, 0, none⟩) 4 4, Value.string ⟨(rtoa r8).toArray⟩] 96 (0, 0))) ∧ Hid (wx.heap[gb]? = some (.cells #[Value.string ⟨(rtoa r4).toArray⟩, Value.string ⟨(rtoa r5).toArray⟩, .string ⟨#[49]⟩, .string ⟨#[48]⟩] 27 (0, 0))) ∧ Hid (w5.heap.size ≤ gp ∧ w5.heap.size ≤ gb) ∧ Hid (Below w5.heap.size w5 wx))
      case first =>
        refine Go.Front.wpIn_region_front (S := fun V => V.cell? ⟨wr.heap.size, 0, none⟩ = some (.int .i64 x) ∧ V.cell? ⟨wr.heap.size, 1, none⟩ = some (.int .i64 y)) 13 (by kernel_rfl) (by simp) (by kernel_rfl) (by kernel_rfl) (by kernel_rfl) (by kernel_rfl) (by kernel_rfl) ?_ (fun hHeld => ?_)
        · (exact HPC.out _ (by repeat first | assumption | refine Below.drew ?_ | refine Below.nxt ?_ (lal _ _)))
        simp only [List.take_succ_cons, List.take_zero, List.drop_succ_cons, List.drop_zero]
        refine wpAnyH_take (i := 0) (v := ?_) rfl (by kernel_rfl) (by kernel_rfl) (by kernel_rfl) (fun _ _ _ h => h) (Or.inl ⟨by rfl, ?_⟩) hHeld ?_
        rotate_left
        · intro W hSw; (try dsimp only at hSw); go_simp <;> with_reducible rfl
        (try simp only [Act.put, List.setIfInBounds_toArray, List.set_cons_zero, List.set_cons_succ])
        refine wpAnyH_take (i := 1) (v := ?_) rfl (by kernel_rfl) (by kernel_rfl) (by kernel_rfl) (fun _ _ _ h => h) (Or.inl ⟨by rfl, ?_⟩) hHeld ?_
        rotate_left
        · intro W hSw; (try dsimp only at hSw); go_simp <;> with_reducible rfl
        (try simp only [Act.put, List.setIfInBounds_toArray, List.set_cons_zero, List.set_cons_succ])
        refine wpAnyH_take (i := 2) (v := ?_) rfl (by kernel_rfl) (by kernel_rfl) (by kernel_rfl) (fun _ _ _ h => h) (Or.inl ⟨by rfl, ?_⟩) hHeld ?_
        rotate_left
        · intro W hSw; (try dsimp only at hSw); go_simp <;> with_reducible rfl
        (try simp only [Act.put, List.setIfInBounds_toArray, List.set_cons_zero, List.set_cons_succ])
        refine wpAnyH_take (i := 4) (v := ?_) rfl (by kernel_rfl) (by kernel_rfl) (by kernel_rfl) (fun _ _ _ h => h) (Or.inl ⟨by rfl, ?_⟩) hHeld ?_
        rotate_left
        · intro W hSw; (try dsimp only at hSw); go_simp <;> with_reducible rfl
        (try simp only [Act.put, List.setIfInBounds_toArray, List.set_cons_zero, List.set_cons_succ])
        refine wpAnyH_take (i := 5) (v := ?_) rfl (by kernel_rfl) (by kernel_rfl) (by kernel_rfl) (fun _ _ _ h => h) (Or.inl ⟨by rfl, ?_⟩) hHeld ?_
        rotate_left
        · intro W hSw; (try dsimp only at hSw); go_simp <;> with_reducible rfl
        (try simp only [Act.put, List.setIfInBounds_toArray, List.set_cons_zero, List.set_cons_succ])
        refine wpAnyH_take (i := 6) (v := ?_) rfl (by kernel_rfl) (by kernel_rfl) (by kernel_rfl) (fun _ _ _ h => h) (Or.inl ⟨by rfl, ?_⟩) hHeld ?_
        rotate_left
        · intro W hSw; (try dsimp only at hSw); go_simp <;> with_reducible rfl
        (try simp only [Act.put, List.setIfInBounds_toArray, List.set_cons_zero, List.set_cons_succ])
        refine wpAnyH_take (i := 9) (v := ?_) rfl (by kernel_rfl) (by kernel_rfl) (by kernel_rfl) (fun _ _ _ h => h) (Or.inl ⟨by rfl, ?_⟩) hHeld ?_
        rotate_left
        · intro W hSw; (try dsimp only at hSw); go_simp <;> with_reducible rfl
        (try simp only [Act.put, List.setIfInBounds_toArray, List.set_cons_zero, List.set_cons_succ])
        refine wpAnyH_ready (rs := [3, 12]) (by kernel_rfl) (by simp) ?_
        refine AllReadyH.cons rfl (fun K hK => ?_) (AllReadyH.cons rfl (fun K hK => ?_) AllReadyH.nil)
        · go_simp
          ((with_reducible refine (HV4.out _ (by repeat first | assumption | refine Below.drew ?_ | refine Below.nxt ?_ (lal _ _))).mono ?_); rintro en v1 ⟨rfl, hb1⟩; have C1 := Below.nxt (a := w5) (by repeat first | assumption | refine Below.drew ?_ | refine Below.nxt ?_ (lal _ _)) hb1; go_simp)
          refine hK.out _ _ ?_ (fun hHeld => ?_)
          · ((try dsimp only); exact HPC.out _ (by repeat first | assumption | refine Below.drew ?_ | refine Below.nxt ?_ (lal _ _)))
          clear hK K
          (try simp only [Act.put, List.setIfInBounds_toArray, List.set_cons_zero, List.set_cons_succ])
          refine wpAnyH_ready (rs := [7, 12]) (by kernel_rfl) (by simp) ?_
          refine AllReadyH.cons rfl (fun K hK => ?_) (AllReadyH.cons rfl (fun K hK => ?_) AllReadyH.nil)
          · go_simp
            ((with_reducible refine (HV5.out _ (by repeat first | assumption | refine Below.drew ?_ | refine Below.nxt ?_ (lal _ _))).mono ?_); rintro en v2 ⟨rfl, hb2⟩; have C2 := Below.nxt (a := w5) (by repeat first | assumption | refine Below.drew ?_ | refine Below.nxt ?_ (lal _ _)) hb2; go_simp)
            refine hK.out _ _ ?_ (fun hHeld => ?_)
            · ((try dsimp only); exact HPC.out _ (by repeat first | assumption | refine Below.drew ?_ | refine Below.nxt ?_ (lal _ _)))
            clear hK K
            (try simp only [Act.put, List.setIfInBounds_toArray, List.set_cons_zero, List.set_cons_succ])
            refine wpAnyH_ready (rs := [8, 10, 12]) (by kernel_rfl) (by simp) ?_
            refine AllReadyH.cons rfl (fun K hK => ?_) (AllReadyH.cons rfl (fun K hK => ?_) (AllReadyH.cons rfl (fun K hK => ?_) AllReadyH.nil))
            · go_simp
              have G3 : w5.heap.size ≤ (v2).heap.size := Below.size (show Below w5.heap.size w5 v2 from (by repeat first | assumption | refine Below.drew ?_ | refine Below.nxt ?_ (lal _ _)))
              have C3 := Below.nxt (a := w5) (show Below w5.heap.size w5 v2 from (by repeat first | assumption | refine Below.drew ?_ | refine Below.nxt ?_ (lal _ _))) (lal v2 (.cells #[Value.string ⟨(rtoa r4).toArray⟩, Value.string ⟨(rtoa r5).toArray⟩, .string ⟨#[49]⟩, .string ⟨#[48]⟩] 27))
              have Z8_3 := heap_alloc_new v2 (.cells #[Value.string ⟨(rtoa r4).toArray⟩, Value.string ⟨(rtoa r5).toArray⟩, .string ⟨#[49]⟩, .string ⟨#[48]⟩] 27)
              refine hK.out _ (v2.alloc (.cells #[Value.string ⟨(rtoa r4).toArray⟩, Value.string ⟨(rtoa r5).toArray⟩, .string ⟨#[49]⟩, .string ⟨#[48]⟩] 27)) ?_ (fun hHeld => ?_)
              · ((try dsimp only); exact HPC.out _ (by repeat first | assumption | refine Below.drew ?_ | refine Below.nxt ?_ (lal _ _)))
              clear hK K
              (try simp only [Act.put, List.setIfInBounds_toArray, List.set_cons_zero, List.set_cons_succ])
              generalize (v2.alloc (.cells #[Value.string ⟨(rtoa r4).toArray⟩, Value.string ⟨(rtoa r5).toArray⟩, .string ⟨#[49]⟩, .string ⟨#[48]⟩] 27)) = v3 at *
              refine wpAnyH_ready (rs := [10, 12]) (by kernel_rfl) (by simp) ?_
              refine AllReadyH.cons rfl (fun K hK => ?_) (AllReadyH.cons rfl (fun K hK => ?_) AllReadyH.nil)
              · go_simp
                ((with_reducible refine (HV8.out _ (by repeat first | assumption | refine Below.drew ?_ | refine Below.nxt ?_ (lal _ _))).mono ?_); rintro en v4 ⟨rfl, hb4⟩; have C4 := Below.nxt (a := w5) (by repeat first | assumption | refine Below.drew ?_ | refine Below.nxt ?_ (lal _ _)) hb4; go_simp)
                have Z8_4 := keepB Z8_3 hb4
                refine hK.out _ _ ?_ (fun hHeld => ?_)
                · ((try dsimp only); exact HPC.out _ (by repeat first | assumption | refine Below.drew ?_ | refine Below.nxt ?_ (lal _ _)))
                clear hK K
                (try simp only [Act.put, List.setIfInBounds_toArray, List.set_cons_zero, List.set_cons_succ])
                refine wpAnyH_take (i := 11) (v := ?_) rfl (by kernel_rfl) (by kernel_rfl) (by kernel_rfl) (fun _ _ _ h => h) (Or.inl ⟨by rfl, ?_⟩) hHeld ?_
                rotate_left
                · intro W hSw; (try dsimp only at hSw); go_simp <;> with_reducible rfl
                (try simp only [Act.put, List.setIfInBounds_toArray, List.set_cons_zero, List.set_cons_succ])
                refine wpAnyH_ready (rs := [12]) (by kernel_rfl) (by simp) ?_
                refine AllReadyH.cons rfl (fun K hK => ?_) AllReadyH.nil
                · go_simp
                  have G5 : w5.heap.size ≤ (v4).heap.size := Below.size (show Below w5.heap.size w5 v4 from (by repeat first | assumption | refine Below.drew ?_ | refine Below.nxt ?_ (lal _ _)))
                  have C5 := Below.nxt (a := w5) (show Below w5.heap.size w5 v4 from (by repeat first | assumption | refine Below.drew ?_ | refine Below.nxt ?_ (lal _ _))) (lal v4 (.cells #[.slice none 0 0, .string ⟨#[]⟩] 96))
                  have Z8_5 := keepB Z8_4 (lal v4 (.cells #[.slice none 0 0, .string ⟨#[]⟩] 96))
                  have Z12_5 := heap_alloc_new v4 (.cells #[.slice none 0 0, .string ⟨#[]⟩] 96)
                  refine hK.out _ (v4.alloc (.cells #[.slice none 0 0, .string ⟨#[]⟩] 96)) ?_ (fun hHeld => ?_)
                  · ((try dsimp only); exact HPC.out _ (by repeat first | assumption | refine Below.drew ?_ | refine Below.nxt ?_ (lal _ _)))
                  clear hK K
                  (try simp only [Act.put, List.setIfInBounds_toArray, List.set_cons_zero, List.set_cons_succ])
                  generalize (v4.alloc (.cells #[.slice none 0 0, .string ⟨#[]⟩] 96)) = v5 at *
                  refine wpAnyH_done (by kernel_rfl) ?_ _
                  show wpListIn _ _ _ _ _ _ _ _
                  have hf := fun k => frozen_of_row _ _ k _ _ Z12_5
                  obtain ⟨z0, z1⟩ := c2of Z12_5
                  (try simp only [drew_sz] at hf z0 z1)
                  have L := Lib.hid (fun v0 v1 => leaf_fin (v0 := v0) (v1 := v1) Z12_5 Z8_5 (by decide) (by first | assumption | omega) (show Below w5.heap.size w5 v5 from (by repeat first | assumption | refine Below.drew ?_ | refine Below.nxt ?_ (lal _ _))))
                  gi_wp2
                  gi_meet
                  exact ⟨_, _, rfl, Lib.hid (L.out _ _).1, Lib.hid (L.out _ _).2.1, Lib.hid ⟨by first | assumption | omega, by first | assumption | omega⟩, Lib.hid (L.out _ _).2.2⟩
              · go_simp
                have G6 : w5.heap.size ≤ (v3).heap.size := Below.size (show Below w5.heap.size w5 v3 from (by repeat first | assumption | refine Below.drew ?_ | refine Below.nxt ?_ (lal _ _)))
                have C6 := Below.nxt (a := w5) (show Below w5.heap.size w5 v3 from (by repeat first | assumption | refine Below.drew ?_ | refine Below.nxt ?_ (lal _ _))) (lal v3 (.cells #[.slice none 0 0, .string ⟨#[]⟩] 96))
                have Z8_6 := keepB Z8_3 (lal v3 (.cells #[.slice none 0 0, .string ⟨#[]⟩] 96))
                have Z12_6 := heap_alloc_new v3 (.cells #[.slice none 0 0, .string ⟨#[]⟩] 96)
                refine hK.out _ (v3.alloc (.cells #[.slice none 0 0, .string ⟨#[]⟩] 96)) ?_ (fun hHeld => ?_)
                · ((try dsimp only); exact HPC.out _ (by repeat first | assumption | refine Below.drew ?_ | refine Below.nxt ?_ (lal _ _)))
                clear hK K
                (try simp only [Act.put, List.setIfInBounds_toArray, List.set_cons_zero, List.set_cons_succ])
                generalize (v3.alloc (.cells #[.slice none 0 0, .string ⟨#[]⟩] 96)) = v6 at *
                refine wpAnyH_ready (rs := [10]) (by kernel_rfl) (by simp) ?_
                refine AllReadyH.cons rfl (fun K hK => ?_) AllReadyH.nil
                · go_simp
                  ((with_reducible refine (HV8.out _ (by repeat first | assumption | refine Below.drew ?_ | refine Below.nxt ?_ (lal _ _))).mono ?_); rintro en v7 ⟨rfl, hb7⟩; have C7 := Below.nxt (a := w5) (by repeat first | assumption | refine Below.drew ?_ | refine Below.nxt ?_ (lal _ _)) hb7; go_simp)
                  have Z8_7 := keepB Z8_6 hb7
                  have Z12_7 := keepB Z12_6 hb7
                  refine hK.out _ _ ?_ (fun hHeld => ?_)
                  · ((try dsimp only); exact HPC.out _ (by repeat first | assumption | refine Below.drew ?_ | refine Below.nxt ?_ (lal _ _)))
                  clear hK K
                  (try simp only [Act.put, List.setIfInBounds_toArray, List.set_cons_zero, List.set_cons_succ])
                  refine wpAnyH_take (i := 11) (v := ?_) rfl (by kernel_rfl) (by kernel_rfl) (by kernel_rfl) (fun _ _ _ h => h) (Or.inl ⟨by rfl, ?_⟩) hHeld ?_
                  rotate_left
                  · intro W hSw; (try dsimp only at hSw); go_simp <;> with_reducible rfl
                  (try simp only [Act.put, List.setIfInBounds_toArray, List.set_cons_zero, List.set_cons_succ])
                  refine wpAnyH_done (by kernel_rfl) ?_ _
                  show wpListIn _ _ _ _ _ _ _ _
                  have hf := fun k => frozen_of_row _ _ k _ _ Z12_7
                  obtain ⟨z0, z1⟩ := c2of Z12_7
                  (try simp only [drew_sz] at hf z0 z1)
                  have L := Lib.hid (fun v0 v1 => leaf_fin (v0 := v0) (v1 := v1) Z12_7 Z8_7 (by decide) (by first | assumption | omega) (show Below w5.heap.size w5 v7 from (by repeat first | assumption | refine Below.drew ?_ | refine Below.nxt ?_ (lal _ _))))
                  gi_wp2
                  gi_meet
                  exact ⟨_, _, rfl, Lib.hid (L.out _ _).1, Lib.hid (L.out _ _).2.1, Lib.hid ⟨by first | assumption | omega, by first | assumption | omega⟩, Lib.hid (L.out _ _).2.2⟩
            · go_simp
              ((with_reducible refine (HV8.out _ (by repeat first | assumption | refine Below.drew ?_ | refine Below.nxt ?_ (lal _ _))).mono ?_); rintro en v8 ⟨rfl, hb8⟩; have C8 := Below.nxt (a := w5) (by repeat first | assumption | refine Below.drew ?_ | refine Below.nxt ?_ (lal _ _)) hb8; go_simp)
              refine hK.out _ _ ?_ (fun hHeld => ?_)
              · ((try dsimp only); exact HPC.out _ (by repeat first | assumption | refine Below.drew ?_ | refine Below.nxt ?_ (lal _ _)))
              clear hK K
              (try simp only [Act.put, List.setIfInBounds_toArray, List.set_cons_zero, List.set_cons_succ])
              refine wpAnyH_ready (rs := [8, 12]) (by kernel_rfl) (by simp) ?_
              refine AllReadyH.cons rfl (fun K hK => ?_) (AllReadyH.cons rfl (fun K hK => ?_) AllReadyH.nil)
              · go_simp
                have G9 : w5.heap.size ≤ (v8).heap.size := Below.size (show Below w5.heap.size w5 v8 from (by repeat first | assumption | refine Below.drew ?_ | refine Below.nxt ?_ (lal _ _)))
                have C9 := Below.nxt (a := w5) (show Below w5.heap.size w5 v8 from (by repeat first | assumption | refine Below.drew ?_ | refine Below.nxt ?_ (lal _ _))) (lal v8 (.cells #[Value.string ⟨(rtoa r4).toArray⟩, Value.string ⟨(rtoa r5).toArray⟩, .string ⟨#[49]⟩, .string ⟨#[48]⟩] 27))
                have Z8_9 := heap_alloc_new v8 (.cells #[Value.string ⟨(rtoa r4).toArray⟩, Value.string ⟨(rtoa r5).toArray⟩, .string ⟨#[49]⟩, .string ⟨#[48]⟩] 27)
                refine hK.out _ (v8.alloc (.cells #[Value.string ⟨(rtoa r4).toArray⟩, Value.string ⟨(rtoa r5).toArray⟩, .string ⟨#[49]⟩, .string ⟨#[48]⟩] 27)) ?_ (fun hHeld => ?_)
                · ((try dsimp only); exact HPC.out _ (by repeat first | assumption | refine Below.drew ?_ | refine Below.nxt ?_ (lal _ _)))
                clear hK K
                (try simp only [Act.put, List.setIfInBounds_toArray, List.set_cons_zero, List.set_cons_succ])
                generalize (v8.alloc (.cells #[Value.string ⟨(rtoa r4).toArray⟩, Value.string ⟨(rtoa r5).toArray⟩, .string ⟨#[49]⟩, .string ⟨#[48]⟩] 27)) = v9 at *
                refine wpAnyH_take (i := 11) (v := ?_) rfl (by kernel_rfl) (by kernel_rfl) (by kernel_rfl) (fun _ _ _ h => h) (Or.inl ⟨by rfl, ?_⟩) hHeld ?_
                rotate_left
                · intro W hSw; (try dsimp only at hSw); go_simp <;> with_reducible rfl
                (try simp only [Act.put, List.setIfInBounds_toArray, List.set_cons_zero, List.set_cons_succ])
                refine wpAnyH_ready (rs := [12]) (by kernel_rfl) (by simp) ?_
                refine AllReadyH.cons rfl (fun K hK => ?_) AllReadyH.nil
                · go_simp
                  have G10 : w5.heap.size ≤ (v9).heap.size := Below.size (show Below w5.heap.size w5 v9 from (by repeat first | assumption | refine Below.drew ?_ | refine Below.nxt ?_ (lal _ _)))
                  have C10 := Below.nxt (a := w5) (show Below w5.heap.size w5 v9 from (by repeat first | assumption | refine Below.drew ?_ | refine Below.nxt ?_ (lal _ _))) (lal v9 (.cells #[.slice none 0 0, .string ⟨#[]⟩] 96))
                  have Z8_10 := keepB Z8_9 (lal v9 (.cells #[.slice none 0 0, .string ⟨#[]⟩] 96))
                  have Z12_10 := heap_alloc_new v9 (.cells #[.slice none 0 0, .string ⟨#[]⟩] 96)
                  refine hK.out _ (v9.alloc (.cells #[.slice none 0 0, .string ⟨#[]⟩] 96)) ?_ (fun hHeld => ?_)
                  · ((try dsimp only); exact HPC.out _ (by repeat first | assumption | refine Below.drew ?_ | refine Below.nxt ?_ (lal _ _)))
                  clear hK K
                  (try simp only [Act.put, List.setIfInBounds_toArray, List.set_cons_zero, List.set_cons_succ])
                  generalize (v9.alloc (.cells #[.slice none 0 0, .string ⟨#[]⟩] 96)) = v10 at *
                  refine wpAnyH_done (by kernel_rfl) ?_ _
                  show wpListIn _ _ _ _ _ _ _ _
                  have hf := fun k => frozen_of_row _ _ k _ _ Z12_10
                  obtain ⟨z0, z1⟩ := c2of Z12_10
                  (try simp only [drew_sz] at hf z0 z1)
                  have L := Lib.hid (fun v0 v1 => leaf_fin (v0 := v0) (v1 := v1) Z12_10 Z8_10 (by decide) (by first | assumption | omega) (show Below w5.heap.size w5 v10 from (by repeat first | assumption | refine Below.drew ?_ | refine Below.nxt ?_ (lal _ _))))
                  gi_wp2
                  gi_meet
                  exact ⟨_, _, rfl, Lib.hid (L.out _ _).1, Lib.hid (L.out _ _).2.1, Lib.hid ⟨by first | assumption | omega, by first | assumption | omega⟩, Lib.hid (L.out _ _).2.2⟩
              · go_simp
                have G11 : w5.heap.size ≤ (v8).heap.size := Below.size (show Below w5.heap.size w5 v8 from (by repeat first | assumption | refine Below.drew ?_ | refine Below.nxt ?_ (lal _ _)))
                have C11 := Below.nxt (a := w5) (show Below w5.heap.size w5 v8 from (by repeat first | assumption | refine Below.drew ?_ | refine Below.nxt ?_ (lal _ _))) (lal v8 (.cells #[.slice none 0 0, .string ⟨#[]⟩] 96))
                have Z12_11 := heap_alloc_new v8 (.cells #[.slice none 0 0, .string ⟨#[]⟩] 96)
                refine hK.out _ (v8.alloc (.cells #[.slice none 0 0, .string ⟨#[]⟩] 96)) ?_ (fun hHeld => ?_)
                · ((try dsimp only); exact HPC.out _ (by repeat first | assumption | refine Below.drew ?_ | refine Below.nxt ?_ (lal _ _)))
                clear hK K
                (try simp only [Act.put, List.setIfInBounds_toArray, List.set_cons_zero, List.set_cons_succ])
                generalize (v8.alloc (.cells #[.slice none 0 0, .string ⟨#[]⟩] 96)) = v11 at *
                refine wpAnyH_ready (rs := [8]) (by kernel_rfl) (by simp) ?_
                refine AllReadyH.cons rfl (fun K hK => ?_) AllReadyH.nil
                · go_simp
                  have G12 : w5.heap.size ≤ (v11).heap.size := Below.size (show Below w5.heap.size w5 v11 from (by repeat first | assumption | refine Below.drew ?_ | refine Below.nxt ?_ (lal _ _)))
                  have C12 := Below.nxt (a := w5) (show Below w5.heap.size w5 v11 from (by repeat first | assumption | refine Below.drew ?_ | refine Below.nxt ?_ (lal _ _))) (lal v11 (.cells #[Value.string ⟨(rtoa r4).toArray⟩, Value.string ⟨(rtoa r5).toArray⟩, .string ⟨#[49]⟩, .string ⟨#[48]⟩] 27))
                  have Z12_12 := keepB Z12_11 (lal v11 (.cells #[Value.string ⟨(rtoa r4).toArray⟩, Value.string ⟨(rtoa r5).toArray⟩, .string ⟨#[49]⟩, .string ⟨#[48]⟩] 27))
                  have Z8_12 := heap_alloc_new v11 (.cells #[Value.string ⟨(rtoa r4).toArray⟩, Value.string ⟨(rtoa r5).toArray⟩, .string ⟨#[49]⟩, .string ⟨#[48]⟩] 27)
                  refine hK.out _ (v11.alloc (.cells #[Value.string ⟨(rtoa r4).toArray⟩, Value.string ⟨(rtoa r5).toArray⟩, .string ⟨#[49]⟩, .string ⟨#[48]⟩] 27)) ?_ (fun hHeld => ?_)
                  · ((try dsimp only); exact HPC.out _ (by repeat first | assumption | refine Below.drew ?_ | refine Below.nxt ?_ (lal _ _)))
                  clear hK K
                  (try simp only [Act.put, List.setIfInBounds_toArray, List.set_cons_zero, List.set_cons_succ])
                  generalize (v11.alloc (.cells #[Value.string ⟨(rtoa r4).toArray⟩, Value.string ⟨(rtoa r5).toArray⟩, .string ⟨#[49]⟩, .string ⟨#[48]⟩] 27)) = v12 at *
                  refine wpAnyH_take (i := 11) (v := ?_) rfl (by kernel_rfl) (by kernel_rfl) (by kernel_rfl) (fun _ _ _ h => h) (Or.inl ⟨by rfl, ?_⟩) hHeld ?_
                  rotate_left
                  · intro W hSw; (try dsimp only at hSw); go_simp <;> with_reducible rfl
                  (try simp only [Act.put, List.setIfInBounds_toArray, List.set_cons_zero, List.set_cons_succ])
                  refine wpAnyH_done (by kernel_rfl) ?_ _
                  show wpListIn _ _ _ _ _ _ _ _
                  have hf := fun k => frozen_of_row _ _ k _ _ Z12_12
                  obtain ⟨z0, z1⟩ := c2of Z12_12
                  (try simp only [drew_sz] at hf z0 z1)
                  have L := Lib.hid (fun v0 v1 => leaf_fin (v0 := v0) (v1 := v1) Z12_12 Z8_12 (by decide) (by first | assumption | omega) (show Below w5.heap.size w5 v12 from (by repeat first | assumption | refine Below.drew ?_ | refine Below.nxt ?_ (lal _ _))))
                  gi_wp2
                  gi_meet
                  exact ⟨_, _, rfl, Lib.hid (L.out _ _).1, Lib.hid (L.out _ _).2.1, Lib.hid ⟨by first | assumption | omega, by first | assumption | omega⟩, Lib.hid (L.out _ _).2.2⟩
            · go_simp
              have G13 : w5.heap.size ≤ (v2).heap.size := Below.size (show Below w5.heap.size w5 v2 from (by repeat first | assumption | refine Below.drew ?_ | refine Below.nxt ?_ (lal _ _)))
              have C13 := Below.nxt (a := w5) (show Below w5.heap.size w5 v2 from (by repeat first | assumption | refine Below.drew ?_ | refine Below.nxt ?_ (lal _ _))) (lal v2 (.cells #[.slice none 0 0, .string ⟨#[]⟩] 96))
              have Z12_13 := heap_alloc_new v2 (.cells #[.slice none 0 0, .string ⟨#[]⟩] 96)
              refine hK.out _ (v2.alloc (.cells #[.slice none 0 0, .string ⟨#[]⟩] 96)) ?_ (fun hHeld => ?_)
              · ((try dsimp only); exact HPC.out _ (by repeat first | assumption | refine Below.drew ?_ | refine Below.nxt ?_ (lal _ _)))
              clear hK K
              (try simp only [Act.put, List.setIfInBounds_toArray, List.set_cons_zero, List.set_cons_succ])
              generalize (v2.alloc (.cells #[.slice none 0 0, .string ⟨#[]⟩] 96)) = v13 at *
              refine wpAnyH_ready (rs := [8, 10]) (by kernel_rfl) (by simp) ?_
              refine AllReadyH.cons rfl (fun K hK => ?_) (AllReadyH.cons rfl (fun K hK => ?_) AllReadyH.nil)
              · go_simp
                have G14 : w5.heap.size ≤ (v13).heap.size := Below.size (show Below w5.heap.size w5 v13 from (by repeat first | assumption | refine Below.drew ?_ | refine Below.nxt ?_ (lal _ _)))
                have C14 := Below.nxt (a := w5) (show Below w5.heap.size w5 v13 from (by repeat first | assumption | refine Below.drew ?_ | refine Below.nxt ?_ (lal _ _))) (lal v13 (.cells #[Value.string ⟨(rtoa r4).toArray⟩, Value.string ⟨(rtoa r5).toArray⟩, .string ⟨#[49]⟩, .string ⟨#[48]⟩] 27))
                have Z12_14 := keepB Z12_13 (lal v13 (.cells #[Value.string ⟨(rtoa r4).toArray⟩, Value.string ⟨(rtoa r5).toArray⟩, .string ⟨#[49]⟩, .string ⟨#[48]⟩] 27))
                have Z8_14 := heap_alloc_new v13 (.cells #[Value.string ⟨(rtoa r4).toArray⟩, Value.string ⟨(rtoa r5).toArray⟩, .string ⟨#[49]⟩, .string ⟨#[48]⟩] 27)
                refine hK.out _ (v13.alloc (.cells #[Value.string ⟨(rtoa r4).toArray⟩, Value.string ⟨(rtoa r5).toArray⟩, .string ⟨#[49]⟩, .string ⟨#[48]⟩] 27)) ?_ (fun hHeld => ?_)
                · ((try dsimp only); exact HPC.out _ (by repeat first | assumption | refine Below.drew ?_ | refine Below.nxt ?_ (lal _ _)))
                clear hK K
                (try simp only [Act.put, List.setIfInBounds_toArray, List.set_cons_zero, List.set_cons_succ])
                generalize (v13.alloc (.cells #[Value.string ⟨(rtoa r4).toArray⟩, Value.string ⟨(rtoa r5).toArray⟩, .string ⟨#[49]⟩, .string ⟨#[48]⟩] 27)) = v14 at *
                refine wpAnyH_ready (rs := [10]) (by kernel_rfl) (by simp) ?_
                refine AllReadyH.cons rfl (fun K hK => ?_) AllReadyH.nil
                · go_simp
                  ((with_reducible refine (HV8.out _ (by repeat first | assumption | refine Below.drew ?_ | refine Below.nxt ?_ (lal _ _))).mono ?_); rintro en v15 ⟨rfl, hb15⟩; have C15 := Below.nxt (a := w5) (by repeat first | assumption | refine Below.drew ?_ | refine Below.nxt ?_ (lal _ _)) hb15; go_simp)
                  have Z12_15 := keepB Z12_14 hb15
                  have Z8_15 := keepB Z8_14 hb15
                  refine hK.out _ _ ?_ (fun hHeld => ?_)
                  · ((try dsimp only); exact HPC.out _ (by repeat first | assumption | refine Below.drew ?_ | refine Below.nxt ?_ (lal _ _)))
                  clear hK K
                  (try simp only [Act.put, List.setIfInBounds_toArray, List.set_cons_zero, List.set_cons_succ])
                  refine wpAnyH_take (i := 11) (v := ?_) rfl (by kernel_rfl) (by kernel_rfl) (by kernel_rfl) (fun _ _ _ h => h) (Or.inl ⟨by rfl, ?_⟩) hHeld ?_
                  rotate_left
                  · intro W hSw; (try dsimp only at hSw); go_simp <;> with_reducible rfl
                  (try simp only [Act.put, List.setIfInBounds_toArray, List.set_cons_zero, List.set_cons_succ])
                  refine wpAnyH_done (by kernel_rfl) ?_ _
                  show wpListIn _ _ _ _ _ _ _ _
                  have hf := fun k => frozen_of_row _ _ k _ _ Z12_15
                  obtain ⟨z0, z1⟩ := c2of Z12_15
                  (try simp only [drew_sz] at hf z0 z1)
                  have L := Lib.hid (fun v0 v1 => leaf_fin (v0 := v0) (v1 := v1) Z12_15 Z8_15 (by decide) (by first | assumption | omega) (show Below w5.heap.size w5 v15 from (by repeat first | assumption | refine Below.drew ?_ | refine Below.nxt ?_ (lal _ _))))
                  gi_wp2
                  gi_meet
                  exact ⟨_, _, rfl, Lib.hid (L.out _ _).1, Lib.hid (L.out _ _).2.1, Lib.hid ⟨by first | assumption | omega, by first | assumption | omega⟩, Lib.hid (L.out _ _).2.2⟩
              · go_simp
                ((with_reducible refine (HV8.out _ (by repeat first | assumption | refine Below.drew ?_ | refine Below.nxt ?_ (lal _ _))).mono ?_); rintro en v16 ⟨rfl, hb16⟩; have C16 := Below.nxt (a := w5) (by repeat first | assumption | refine Below.drew ?_ | refine Below.nxt ?_ (lal _ _)) hb16; go_simp)
                have Z12_16 := keepB Z12_13 hb16
                refine hK.out _ _ ?_ (fun hHeld => ?_)
                · ((try dsimp only); exact HPC.out _ (by repeat first | assumption | refine Below.drew ?_ | refine Below.nxt ?_ (lal _ _)))
                clear hK K
                (try simp only [Act.put, List.setIfInBounds_toArray, List.set_cons_zero, List.set_cons_succ])
                refine wpAnyH_ready (rs := [8]) (by kernel_rfl) (by simp) ?_
                refine AllReadyH.cons rfl (fun K hK => ?_) AllReadyH.nil
                · go_simp
                  have G17 : w5.heap.size ≤ (v16).heap.size := Below.size (show Below w5.heap.size w5 v16 from (by repeat first | assumption | refine Below.drew ?_ | refine Below.nxt ?_ (lal _ _)))
                  have C17 := Below.nxt (a := w5) (show Below w5.heap.size w5 v16 from (by repeat first | assumption | refine Below.drew ?_ | refine Below.nxt ?_ (lal _ _))) (lal v16 (.cells #[Value.string ⟨(rtoa r4).toArray⟩, Value.string ⟨(rtoa r5).toArray⟩, .string ⟨#[49]⟩, .string ⟨#[48]⟩] 27))
                  have Z12_17 := keepB Z12_16 (lal v16 (.cells #[Value.string ⟨(rtoa r4).toArray⟩, Value.string ⟨(rtoa r5).toArray⟩, .string ⟨#[49]⟩, .string ⟨#[48]⟩] 27))
                  have Z8_17 := heap_alloc_new v16 (.cells #[Value.string ⟨(rtoa r4).toArray⟩, Value.string ⟨(rtoa r5).toArray⟩, .string ⟨#[49]⟩, .string ⟨#[48]⟩] 27)
                  refine hK.out _ (v16.alloc (.cells #[Value.string ⟨(rtoa r4).toArray⟩, Value.string ⟨(rtoa r5).toArray⟩, .string ⟨#[49]⟩, .string ⟨#[48]⟩] 27)) ?_ (fun hHeld => ?_)
                  · ((try dsimp only); exact HPC.out _ (by repeat first | assumption | refine Below.drew ?_ | refine Below.nxt ?_ (lal _ _)))
                  clear hK K
                  (try simp only [Act.put, List.setIfInBounds_toArray, List.set_cons_zero, List.set_cons_succ])
                  generalize (v16.alloc (.cells #[Value.string ⟨(rtoa r4).toArray⟩, Value.string ⟨(rtoa r5).toArray⟩, .string ⟨#[49]⟩, .string ⟨#[48]⟩] 27)) = v17 at *
                  refine wpAnyH_take (i := 11) (v := ?_) rfl (by kernel_rfl) (by kernel_rfl) (by kernel_rfl) (fun _ _ _ h => h) (Or.inl ⟨by rfl, ?_⟩) hHeld ?_
                  rotate_left
                  · intro W hSw; (try dsimp only at hSw); go_simp <;> with_reducible rfl
                  (try simp only [Act.put, List.setIfInBounds_toArray, List.set_cons_zero, List.set_cons_succ])
                  refine wpAnyH_done (by kernel_rfl) ?_ _
                  show wpListIn _ _ _ _ _ _ _ _
                  have hf := fun k => frozen_of_row _ _ k _ _ Z12_17
                  obtain ⟨z0, z1⟩ := c2of Z12_17
                  (try simp only [drew_sz] at hf z0 z1)
                  have L := Lib.hid (fun v0 v1 => leaf_fin (v0 := v0) (v1 := v1) Z12_17 Z8_17 (by decide) (by first | assumption | omega) (show Below w5.heap.size w5 v17 from (by repeat first | assumption | refine Below.drew ?_ | refine Below.nxt ?_ (lal _ _))))
                  gi_wp2
                  gi_meet
                  exact ⟨_, _, rfl, Lib.hid (L.out _ _).1, Lib.hid (L.out _ _).2.1, Lib.hid ⟨by first | assumption | omega, by first | assumption | omega⟩, Lib.hid (L.out _ _).2.2⟩
          · go_simp
            have G18 : w5.heap.size ≤ (v1).heap.size := Below.size (show Below w5.heap.size w5 v1 from (by repeat first | assumption | refine Below.drew ?_ | refine Below.nxt ?_ (lal _ _)))
            have C18 := Below.nxt (a := w5) (show Below w5.heap.size w5 v1 from (by repeat first | assumption | refine Below.drew ?_ | refine Below.nxt ?_ (lal _ _))) (lal v1 (.cells #[.slice none 0 0, .string ⟨#[]⟩] 96))
            have Z12_18 := heap_alloc_new v1 (.cells #[.slice none 0 0, .string ⟨#[]⟩] 96)
            refine hK.out _ (v1.alloc (.cells #[.slice none 0 0, .string ⟨#[]⟩] 96)) ?_ (fun hHeld => ?_)
            · ((try dsimp only); exact HPC.out _ (by repeat first | assumption | refine Below.drew ?_ | refine Below.nxt ?_ (lal _ _)))
            clear hK K
            (try simp only [Act.put, List.setIfInBounds_toArray, List.set_cons_zero, List.set_cons_succ])
            generalize (v1.alloc (.cells #[.slice none 0 0, .string ⟨#[]⟩] 96)) = v18 at *
            refine wpAnyH_ready (rs := [7]) (by kernel_rfl) (by simp) ?_
            refine AllReadyH.cons rfl (fun K hK => ?_) AllReadyH.nil
            · go_simp
              ((with_reducible refine (HV5.out _ (by repeat first | assumption | refine Below.drew ?_ | refine Below.nxt ?_ (lal _ _))).mono ?_); rintro en v19 ⟨rfl, hb19⟩; have C19 := Below.nxt (a := w5) (by repeat first | assumption | refine Below.drew ?_ | refine Below.nxt ?_ (lal _ _)) hb19; go_simp)
              have Z12_19 := keepB Z12_18 hb19
              refine hK.out _ _ ?_ (fun hHeld => ?_)
              · ((try dsimp only); exact HPC.out _ (by repeat first | assumption | refine Below.drew ?_ | refine Below.nxt ?_ (lal _ _)))
              clear hK K
              (try simp only [Act.put, List.setIfInBounds_toArray, List.set_cons_zero, List.set_cons_succ])
              refine wpAnyH_ready (rs := [8, 10]) (by kernel_rfl) (by simp) ?_
              refine AllReadyH.cons rfl (fun K hK => ?_) (AllReadyH.cons rfl (fun K hK => ?_) AllReadyH.nil)
              · go_simp
                have G20 : w5.heap.size ≤ (v19).heap.size := Below.size (show Below w5.heap.size w5 v19 from (by repeat first | assumption | refine Below.drew ?_ | refine Below.nxt ?_ (lal _ _)))
                have C20 := Below.nxt (a := w5) (show Below w5.heap.size w5 v19 from (by repeat first | assumption | refine Below.drew ?_ | refine Below.nxt ?_ (lal _ _))) (lal v19 (.cells #[Value.string ⟨(rtoa r4).toArray⟩, Value.string ⟨(rtoa r5).toArray⟩, .string ⟨#[49]⟩, .string ⟨#[48]⟩] 27))
                have Z12_20 := keepB Z12_19 (lal v19 (.cells #[Value.string ⟨(rtoa r4).toArray⟩, Value.string ⟨(rtoa r5).toArray⟩, .string ⟨#[49]⟩, .string ⟨#[48]⟩] 27))
                have Z8_20 := heap_alloc_new v19 (.cells #[Value.string ⟨(rtoa r4).toArray⟩, Value.string ⟨(rtoa r5).toArray⟩, .string ⟨#[49]⟩, .string ⟨#[48]⟩] 27)
                refine hK.out _ (v19.alloc (.cells #[Value.string ⟨(rtoa r4).toArray⟩, Value.string ⟨(rtoa r5).toArray⟩, .string ⟨#[49]⟩, .string ⟨#[48]⟩] 27)) ?_ (fun hHeld => ?_)
                · ((try dsimp only); exact HPC.out _ (by repeat first | assumption | refine Below.drew ?_ | refine Below.nxt ?_ (lal _ _)))
                clear hK K
                (try simp only [Act.put, List.setIfInBounds_toArray, List.set_cons_zero, List.set_cons_succ])
                generalize (v19.alloc (.cells #[Value.string ⟨(rtoa r4).toArray⟩, Value.string ⟨(rtoa r5).toArray⟩, .string ⟨#[49]⟩, .string ⟨#[48]⟩] 27)) = v20 at *
                refine wpAnyH_ready (rs := [10]) (by kernel_rfl) (by simp) ?_
                refine AllReadyH.cons rfl (fun K hK => ?_) AllReadyH.nil
                · go_simp
                  ((with_reducible refine (HV8.out _ (by repeat first | assumption | refine Below.drew ?_ | refine Below.nxt ?_ (lal _ _))).mono ?_); rintro en v21 ⟨rfl, hb21⟩; have C21 := Below.nxt (a := w5) (by repeat first | assumption | refine Below.drew ?_ | refine Below.nxt ?_ (lal _ _)) hb21; go_simp)
                  have Z12_21 := keepB Z12_20 hb21
                  have Z8_21 := keepB Z8_20 hb21
                  refine hK.out _ _ ?_ (fun hHeld => ?_)
                  · ((try dsimp only); exact HPC.out _ (by repeat first | assumption | refine Below.drew ?_ | refine Below.nxt ?_ (lal _ _)))
                  clear hK K
                  (try simp only [Act.put, List.setIfInBounds_toArray, List.set_cons_zero, List.set_cons_succ])
                  refine wpAnyH_take (i := 11) (v := ?_) rfl (by kernel_rfl) (by kernel_rfl) (by kernel_rfl) (fun _ _ _ h => h) (Or.inl ⟨by rfl, ?_⟩) hHeld ?_
                  rotate_left
                  · intro W hSw; (try dsimp only at hSw); go_simp <;> with_reducible rfl
                  (try simp only [Act.put, List.setIfInBounds_toArray, List.set_cons_zero, List.set_cons_succ])
                  refine wpAnyH_done (by kernel_rfl) ?_ _
                  show wpListIn _ _ _ _ _ _ _ _
                  have hf := fun k => frozen_of_row _ _ k _ _ Z12_21
                  obtain ⟨z0, z1⟩ := c2of Z12_21
                  (try simp only [drew_sz] at hf z0 z1)
                  have L := Lib.hid (fun v0 v1 => leaf_fin (v0 := v0) (v1 := v1) Z12_21 Z8_21 (by decide) (by first | assumption | omega) (show Below w5.heap.size w5 v21 from (by repeat first | assumption | refine Below.drew ?_ | refine Below.nxt ?_ (lal _ _))))
                  gi_wp2
                  gi_meet
                  exact ⟨_, _, rfl, Lib.hid (L.out _ _).1, Lib.hid (L.out _ _).2.1, Lib.hid ⟨by first | assumption | omega, by first | assumption | omega⟩, Lib.hid (L.out _ _).2.2⟩
              · go_simp
                ((with_reducible refine (HV8.out _ (by repeat first | assumption | refine Below.drew ?_ | refine Below.nxt ?_ (lal _ _))).mono ?_); rintro en v22 ⟨rfl, hb22⟩; have C22 := Below.nxt (a := w5) (by repeat first | assumption | refine Below.drew ?_ | refine Below.nxt ?_ (lal _ _)) hb22; go_simp)
                have Z12_22 := keepB Z12_19 hb22
                refine hK.out _ _ ?_ (fun hHeld => ?_)
                · ((try dsimp only); exact HPC.out _ (by repeat first | assumption | refine Below.drew ?_ | refine Below.nxt ?_ (lal _ _)))
                clear hK K
                (try simp only [Act.put, List.setIfInBounds_toArray, List.set_cons_zero, List.set_cons_succ])
                refine wpAnyH_ready (rs := [8]) (by kernel_rfl) (by simp) ?_
                refine AllReadyH.cons rfl (fun K hK => ?_) AllReadyH.nil
                · go_simp
                  have G23 : w5.heap.size ≤ (v22).heap.size := Below.size (show Below w5.heap.size w5 v22 from (by repeat first | assumption | refine Below.drew ?_ | refine Below.nxt ?_ (lal _ _)))
                  have C23 := Below.nxt (a := w5) (show Below w5.heap.size w5 v22 from (by repeat first | assumption | refine Below.drew ?_ | refine Below.nxt ?_ (lal _ _))) (lal v22 (.cells #[Value.string ⟨(rtoa r4).toArray⟩, Value.string ⟨(rtoa r5).toArray⟩, .string ⟨#[49]⟩, .string ⟨#[48]⟩] 27))
                  have Z12_23 := keepB Z12_22 (lal v22 (.cells #[Value.string ⟨(rtoa r4).toArray⟩, Value.string ⟨(rtoa r5).toArray⟩, .string ⟨#[49]⟩, .string ⟨#[48]⟩] 27))
                  have Z8_23 := heap_alloc_new v22 (.cells #[Value.string ⟨(rtoa r4).toArray⟩, Value.string ⟨(rtoa r5).toArray⟩, .string ⟨#[49]⟩, .string ⟨#[48]⟩] 27)
                  refine hK.out _ (v22.alloc (.cells #[Value.string ⟨(rtoa r4).toArray⟩, Value.string ⟨(rtoa r5).toArray⟩, .string ⟨#[49]⟩, .string ⟨#[48]⟩] 27)) ?_ (fun hHeld => ?_)
                  · ((try dsimp only); exact HPC.out _ (by repeat first | assumption | refine Below.drew ?_ | refine Below.nxt ?_ (lal _ _)))
                  clear hK K
                  (try simp only [Act.put, List.setIfInBounds_toArray, List.set_cons_zero, List.set_cons_succ])
                  generalize (v22.alloc (.cells #[Value.string ⟨(rtoa r4).toArray⟩, Value.string ⟨(rtoa r5).toArray⟩, .string ⟨#[49]⟩, .string ⟨#[48]⟩] 27)) = v23 at *
                  refine wpAnyH_take (i := 11) (v := ?_) rfl (by kernel_rfl) (by kernel_rfl) (by kernel_rfl) (fun _ _ _ h => h) (Or.inl ⟨by rfl, ?_⟩) hHeld ?_
                  rotate_left
                  · intro W hSw; (try dsimp only at hSw); go_simp <;> with_reducible rfl
                  (try simp only [Act.put, List.setIfInBounds_toArray, List.set_cons_zero, List.set_cons_succ])
                  refine wpAnyH_done (by kernel_rfl) ?_ _
                  show wpListIn _ _ _ _ _ _ _ _
                  have hf := fun k => frozen_of_row _ _ k _ _ Z12_23
                  obtain ⟨z0, z1⟩ := c2of Z12_23
                  (try simp only [drew_sz] at hf z0 z1)
                  have L := Lib.hid (fun v0 v1 => leaf_fin (v0 := v0) (v1 := v1) Z12_23 Z8_23 (by decide) (by first | assumption | omega) (show Below w5.heap.size w5 v23 from (by repeat first | assumption | refine Below.drew ?_ | refine Below.nxt ?_ (lal _ _))))
                  gi_wp2
                  gi_meet
                  exact ⟨_, _, rfl, Lib.hid (L.out _ _).1, Lib.hid (L.out _ _).2.1, Lib.hid ⟨by first | assumption | omega, by first | assumption | omega⟩, Lib.hid (L.out _ _).2.2⟩
        · go_simp
          have G24 : w5.heap.size ≤ (w5.drew).heap.size := Below.size (show Below w5.heap.size w5 w5.drew from (by repeat first | assumption | refine Below.drew ?_ | refine Below.nxt ?_ (lal _ _)))
          have C24 := Below.nxt (a := w5) (show Below w5.heap.size w5 w5.drew from (by repeat first | assumption | refine Below.drew ?_ | refine Below.nxt ?_ (lal _ _))) (lal w5.drew (.cells #[.slice none 0 0, .string ⟨#[]⟩] 96))
          have Z12_24 := heap_alloc_new w5.drew (.cells #[.slice none 0 0, .string ⟨#[]⟩] 96)
          refine hK.out _ (w5.drew.alloc (.cells #[.slice none 0 0, .string ⟨#[]⟩] 96)) ?_ (fun hHeld => ?_)
          · ((try dsimp only); exact HPC.out _ (by repeat first | assumption | refine Below.drew ?_ | refine Below.nxt ?_ (lal _ _)))
          clear hK K
          (try simp only [Act.put, List.setIfInBounds_toArray, List.set_cons_zero, List.set_cons_succ])
          generalize (w5.drew.alloc (.cells #[.slice none 0 0, .string ⟨#[]⟩] 96)) = v24 at *
          refine wpAnyH_ready (rs := [3]) (by kernel_rfl) (by simp) ?_
          refine AllReadyH.cons rfl (fun K hK => ?_) AllReadyH.nil
          · go_simp
            ((with_reducible refine (HV4.out _ (by repeat first | assumption | refine Below.drew ?_ | refine Below.nxt ?_ (lal _ _))).mono ?_); rintro en v25 ⟨rfl, hb25⟩; have C25 := Below.nxt (a := w5) (by repeat first | assumption | refine Below.drew ?_ | refine Below.nxt ?_ (lal _ _)) hb25; go_simp)
            have Z12_25 := keepB Z12_24 hb25
            refine hK.out _ _ ?_ (fun hHeld => ?_)
            · ((try dsimp only); exact HPC.out _ (by repeat first | assumption | refine Below.drew ?_ | refine Below.nxt ?_ (lal _ _)))
            clear hK K
            (try simp only [Act.put, List.setIfInBounds_toArray, List.set_cons_zero, List.set_cons_succ])
            refine wpAnyH_ready (rs := [7]) (by kernel_rfl) (by simp) ?_
            refine AllReadyH.cons rfl (fun K hK => ?_) AllReadyH.nil
            · go_simp
              ((with_reducible refine (HV5.out _ (by repeat first | assumption | refine Below.drew ?_ | refine Below.nxt ?_ (lal _ _))).mono ?_); rintro en v26 ⟨rfl, hb26⟩; have C26 := Below.nxt (a := w5) (by repeat first | assumption | refine Below.drew ?_ | refine Below.nxt ?_ (lal _ _)) hb26; go_simp)
              have Z12_26 := keepB Z12_25 hb26
              refine hK.out _ _ ?_ (fun hHeld => ?_)
              · ((try dsimp only); exact HPC.out _ (by repeat first | assumption | refine Below.drew ?_ | refine Below.nxt ?_ (lal _ _)))
              clear hK K
              (try simp only [Act.put, List.setIfInBounds_toArray, List.set_cons_zero, List.set_cons_succ])
              refine wpAnyH_ready (rs := [8, 10]) (by kernel_rfl) (by simp) ?_
              refine AllReadyH.cons rfl (fun K hK => ?_) (AllReadyH.cons rfl (fun K hK => ?_) AllReadyH.nil)
              · go_simp
                have G27 : w5.heap.size ≤ (v26).heap.size := Below.size (show Below w5.heap.size w5 v26 from (by repeat first | assumption | refine Below.drew ?_ | refine Below.nxt ?_ (lal _ _)))
                have C27 := Below.nxt (a := w5) (show Below w5.heap.size w5 v26 from (by repeat first | assumption | refine Below.drew ?_ | refine Below.nxt ?_ (lal _ _))) (lal v26 (.cells #[Value.string ⟨(rtoa r4).toArray⟩, Value.string ⟨(rtoa r5).toArray⟩, .string ⟨#[49]⟩, .string ⟨#[48]⟩] 27))
                have Z12_27 := keepB Z12_26 (lal v26 (.cells #[Value.string ⟨(rtoa r4).toArray⟩, Value.string ⟨(rtoa r5).toArray⟩, .string ⟨#[49]⟩, .string ⟨#[48]⟩] 27))
                have Z8_27 := heap_alloc_new v26 (.cells #[Value.string ⟨(rtoa r4).toArray⟩, Value.string ⟨(rtoa r5).toArray⟩, .string ⟨#[49]⟩, .string ⟨#[48]⟩] 27)
                refine hK.out _ (v26.alloc (.cells #[Value.string ⟨(rtoa r4).toArray⟩, Value.string ⟨(rtoa r5).toArray⟩, .string ⟨#[49]⟩, .string ⟨#[48]⟩] 27)) ?_ (fun hHeld => ?_)
                · ((try dsimp only); exact HPC.out _ (by repeat first | assumption | refine Below.drew ?_ | refine Below.nxt ?_ (lal _ _)))
                clear hK K
                (try simp only [Act.put, List.setIfInBounds_toArray, List.set_cons_zero, List.set_cons_succ])
                generalize (v26.alloc (.cells #[Value.string ⟨(rtoa r4).toArray⟩, Value.string ⟨(rtoa r5).toArray⟩, .string ⟨#[49]⟩, .string ⟨#[48]⟩] 27)) = v27 at *
                refine wpAnyH_ready (rs := [10]) (by kernel_rfl) (by simp) ?_
                refine AllReadyH.cons rfl (fun K hK => ?_) AllReadyH.nil
                · go_simp
                  ((with_reducible refine (HV8.out _ (by repeat first | assumption | refine Below.drew ?_ | refine Below.nxt ?_ (lal _ _))).mono ?_); rintro en v28 ⟨rfl, hb28⟩; have C28 := Below.nxt (a := w5) (by repeat first | assumption | refine Below.drew ?_ | refine Below.nxt ?_ (lal _ _)) hb28; go_simp)
                  have Z12_28 := keepB Z12_27 hb28
                  have Z8_28 := keepB Z8_27 hb28
                  refine hK.out _ _ ?_ (fun hHeld => ?_)
                  · ((try dsimp only); exact HPC.out _ (by repeat first | assumption | refine Below.drew ?_ | refine Below.nxt ?_ (lal _ _)))
                  clear hK K
                  (try simp only [Act.put, List.setIfInBounds_toArray, List.set_cons_zero, List.set_cons_succ])
                  refine wpAnyH_take (i := 11) (v := ?_) rfl (by kernel_rfl) (by kernel_rfl) (by kernel_rfl) (fun _ _ _ h => h) (Or.inl ⟨by rfl, ?_⟩) hHeld ?_
                  rotate_left
                  · intro W hSw; (try dsimp only at hSw); go_simp <;> with_reducible rfl
                  (try simp only [Act.put, List.setIfInBounds_toArray, List.set_cons_zero, List.set_cons_succ])
                  refine wpAnyH_done (by kernel_rfl) ?_ _
                  show wpListIn _ _ _ _ _ _ _ _
                  have hf := fun k => frozen_of_row _ _ k _ _ Z12_28
                  obtain ⟨z0, z1⟩ := c2of Z12_28
                  (try simp only [drew_sz] at hf z0 z1)
                  have L := Lib.hid (fun v0 v1 => leaf_fin (v0 := v0) (v1 := v1) Z12_28 Z8_28 (by decide) (by first | assumption | omega) (show Below w5.heap.size w5 v28 from (by repeat first | assumption | refine Below.drew ?_ | refine Below.nxt ?_ (lal _ _))))
                  gi_wp2
                  gi_meet
                  exact ⟨_, _, rfl, Lib.hid (L.out _ _).1, Lib.hid (L.out _ _).2.1, Lib.hid ⟨by first | assumption | omega, by first | assumption | omega⟩, Lib.hid (L.out _ _).2.2⟩
              · go_simp
                ((with_reducible refine (HV8.out _ (by repeat first | assumption | refine Below.drew ?_ | refine Below.nxt ?_ (lal _ _))).mono ?_); rintro en v29 ⟨rfl, hb29⟩; have C29 := Below.nxt (a := w5) (by repeat first | assumption | refine Below.drew ?_ | refine Below.nxt ?_ (lal _ _)) hb29; go_simp)
                have Z12_29 := keepB Z12_26 hb29
                refine hK.out _ _ ?_ (fun hHeld => ?_)
                · ((try dsimp only); exact HPC.out _ (by repeat first | assumption | refine Below.drew ?_ | refine Below.nxt ?_ (lal _ _)))
                clear hK K
                (try simp only [Act.put, List.setIfInBounds_toArray, List.set_cons_zero, List.set_cons_succ])
                refine wpAnyH_ready (rs := [8]) (by kernel_rfl) (by simp) ?_
                refine AllReadyH.cons rfl (fun K hK => ?_) AllReadyH.nil
                · go_simp
                  have G30 : w5.heap.size ≤ (v29).heap.size := Below.size (show Below w5.heap.size w5 v29 from (by repeat first | assumption | refine Below.drew ?_ | refine Below.nxt ?_ (lal _ _)))
                  have C30 := Below.nxt (a := w5) (show Below w5.heap.size w5 v29 from (by repeat first | assumption | refine Below.drew ?_ | refine Below.nxt ?_ (lal _ _))) (lal v29 (.cells #[Value.string ⟨(rtoa r4).toArray⟩, Value.string ⟨(rtoa r5).toArray⟩, .string ⟨#[49]⟩, .string ⟨#[48]⟩] 27))
                  have Z12_30 := keepB Z12_29 (lal v29 (.cells #[Value.string ⟨(rtoa r4).toArray⟩, Value.string ⟨(rtoa r5).toArray⟩, .string ⟨#[49]⟩, .string ⟨#[48]⟩] 27))
                  have Z8_30 := heap_alloc_new v29 (.cells #[Value.string ⟨(rtoa r4).toArray⟩, Value.string ⟨(rtoa r5).toArray⟩, .string ⟨#[49]⟩, .string ⟨#[48]⟩] 27)
                  refine hK.out _ (v29.alloc (.cells #[Value.string ⟨(rtoa r4).toArray⟩, Value.string ⟨(rtoa r5).toArray⟩, .string ⟨#[49]⟩, .string ⟨#[48]⟩] 27)) ?_ (fun hHeld => ?_)
                  · ((try dsimp only); exact HPC.out _ (by repeat first | assumption | refine Below.drew ?_ | refine Below.nxt ?_ (lal _ _)))
                  clear hK K
                  (try simp only [Act.put, List.setIfInBounds_toArray, List.set_cons_zero, List.set_cons_succ])
                  generalize (v29.alloc (.cells #[Value.string ⟨(rtoa r4).toArray⟩, Value.string ⟨(rtoa r5).toArray⟩, .string ⟨#[49]⟩, .string ⟨#[48]⟩] 27)) = v30 at *
                  refine wpAnyH_take (i := 11) (v := ?_) rfl (by kernel_rfl) (by kernel_rfl) (by kernel_rfl) (fun _ _ _ h => h) (Or.inl ⟨by rfl, ?_⟩) hHeld ?_
                  rotate_left
                  · intro W hSw; (try dsimp only at hSw); go_simp <;> with_reducible rfl
                  (try simp only [Act.put, List.setIfInBounds_toArray, List.set_cons_zero, List.set_cons_succ])
                  refine wpAnyH_done (by kernel_rfl) ?_ _
                  show wpListIn _ _ _ _ _ _ _ _
                  have hf := fun k => frozen_of_row _ _ k _ _ Z12_30
                  obtain ⟨z0, z1⟩ := c2of Z12_30
                  (try simp only [drew_sz] at hf z0 z1)
                  have L := Lib.hid (fun v0 v1 => leaf_fin (v0 := v0) (v1 := v1) Z12_30 Z8_30 (by decide) (by first | assumption | omega) (show Below w5.heap.size w5 v30 from (by repeat first | assumption | refine Below.drew ?_ | refine Below.nxt ?_ (lal _ _))))
                  gi_wp2
                  gi_meet
                  exact ⟨_, _, rfl, Lib.hid (L.out _ _).1, Lib.hid (L.out _ _).2.1, Lib.hid ⟨by first | assumption | omega, by first | assumption | omega⟩, Lib.hid (L.out _ _).2.2⟩
      case rest =>
      obtain ⟨g3, g4, rfl, HD1, HD2, HG3, HDB⟩ := hcut
      generalize wc = w6 at *
      have hj6 := HJQ.out w6 (HAB.out.nxt HDB.out)
      have hlq : wr.heap.size ≤ w5.heap.size := Nat.le_trans HWQ.out HAB.out.size
      have hA1 := keepB HA1.out HDB.out
      have hA2 := keepB HA2.out HDB.out
      have HL3 := Lib.hid (And.intro (Nat.le_trans hlq HG3.out.1) (Nat.le_trans hlq HG3.out.2))
      rw [up_row] at hA2
      have hD2 := HD2.out
      rw [dn_row] at hD2
      have HR3 := Lib.hid (And.intro HD1.out hD2)
      have HY1 := Lib.hid (show YieldAt Fence.wide 0 Tryz.prog l #[.agg #[.slice (some ⟨g2, 0, none⟩) 4 4, Value.string ⟨(rtoa q8).toArray⟩]] w6 (BnY J (2 * i) wr.heap.size w6) from by
        have h := HGO.out (2 * i) wr.heap.size g2 w6 (by omega) hj6
        rw [HU.out] at h
        exact h hA2)
      have HY2 := Lib.hid (fun (w7 : World) (hj7 : J (2 * i + 1) w7.heap.size w7) (hr : w7.heap[g4]? = some (.cells (rtC [r4, r5, 1, 0]) 27 (0, 0))) => show YieldAt Fence.wide 0 Tryz.prog l #[.agg #[.slice (some ⟨g4, 0, none⟩) 4 4, Value.string ⟨(rtoa r8).toArray⟩]] w7 (BnY J (2 * i + 1) w7.heap.size w7) from by
        have h := HGO.out (2 * i + 1) w7.heap.size g4 w7 (by omega) hj7
        rw [HD.out] at h
        exact h hr)
      obtain ⟨f0, f1⟩ := c2of hA1
      clear HA1 HA2 HAB HD1 HD2 HDB HJQ hA1 hA2 hD2 hj6 HU HD hq5 HPC HV4 HV5 HV8 hlq HG3
      obtain ⟨fn, tmps, assign, body, hy, hRd⟩ := HY1.out
      have HRD := Lib.hid hRd
      clear hRd HY1
      gi_wp2_with fail
      refine ⟨rfl, ?_⟩
      refine HRD.out.mono ?_
      rintro e w7 ⟨rfl, hj7, hk7⟩
      have h3 := hk7 g3 HL3.out.1 (Array.getElem?_eq_some_iff.1 HR3.out.1).1
      have h4 := hk7 g4 HL3.out.2 (Array.getElem?_eq_some_iff.1 HR3.out.2).1
      rw [HR3.out.1] at h3
      rw [HR3.out.2] at h4
      have HJ7 := Lib.hid hj7
      clear hk7 hj7 HRD hy f0 f1
      obtain ⟨f0, f1⟩ := c2of h3
      obtain ⟨fn, tmps, assign, body, hy, hRd⟩ := HY2.out w7 HJ7.out h4
      have HRD := Lib.hid hRd
      clear hRd HY2 h3 h4
      gi_wp2_with fail
      refine ⟨rfl, ?_⟩
      refine HRD.out.mono ?_
      rintro e w8 ⟨rfl, hj8, -⟩
      have HJ8 := Lib.hid hj8
      clear hj8 HRD hy f0 f1 HJ7
      gi_wp2
      go_roundw
      case rel => exact ⟨i + 1, by go_num, by omega, HJ8.out⟩
      case measure => simp [intOf]; omega
    · obtain rfl : i = n := by omega
      gi_wp2
      refine bodyPost_ret (results_none rfl _ _ _) rfl ?_
      exact ⟨⟨_, rfl⟩, hjw.out⟩
end Go.Proofs.Wk
