/- POSITION: the statement Measures. -/
import Derived.Test.YtdpjkfkmlaphhaaGreatDoorPM
import Derived.Deep.RegionHeld3
import Derived.Test.YtdpjkfkmlaphhaaGreatDoorPE
import Derived.Test.YtdpjkfkmlaphhaaGreatDoorPB
import Derived.Test.YtdpjkfkmlaphhaaGreatDoorPN
import Derived.Test.YtdpjkfkmlaphhaaGreatDoorPT
namespace Go.Proofs.Wk
open Go.RowKit Mt Po

set_option maxRecDepth 100000 in
set_option maxHeartbeats 2000000 in
theorem rEq_c {v u : Value} (L : List Txt) (w : World) (S : SlS w v L) (T : SlS w u L) (hn3 : L.length ≤ 3) : Calls Tryz.prog 15 #[v, u] w (Ret w (.bool true)) := by
  have HF : ∀ {v : Value}, SlS w v L → ∃ sa cap, v = .slice sa L.length cap ∧ ∀ i, i < L.length → ∃ b off, sa = some ⟨b, off, none⟩ ∧ ∀ W, Below w.heap.size w W → W.cell? ⟨b, off + i, none⟩ = some (.string ⟨(L.getD i []).toArray⟩) := by
    rintro v (⟨a, c, rfl, rfl⟩ | ⟨b, off, c, rfl, hR, hb⟩)
    · exact ⟨a, c, rfl, fun i h => absurd h (Nat.not_lt_zero _)⟩
    · refine ⟨_, c, rfl, fun i hi => ⟨b, off, rfl, fun W h => ?_⟩⟩
      have := (hR.later h hb) i hi
      rw [this, List.getD_eq_getElem?_getD, List.getElem?_eq_getElem hi]; rfl
  obtain ⟨sa, c1, rfl, h1⟩ := HF S
  obtain ⟨ta, c2, rfl, h2⟩ := HF T
  have H1 := Lib.hid h1
  have H2 := Lib.hid h2
  clear S T HF h1 h2
  generalize L.getD = g at *
  generalize L.length = n at *
  have z0 : ((n : Int) != (n : Int)) = false := by simp
  go_enter Tryz.func15, Tryz.ntmps15
  go_wp2_with fail
  go_loopw [13] (fun si wr => ∃ i : Nat, si = .int .i64 (i : Int) ∧ i ≤ n ∧ Hid (Below w.heap.size w wr)) (fun si _ => n - (intOf si).toNat)
  case atStart => exact ⟨0, rfl, Nat.zero_le _, Below.refl _ _⟩
  case round =>
    obtain ⟨i, rfl, hi, hB⟩ := hrel
    by_cases hlt : i < n
    · obtain ⟨b, off, rfl, f1⟩ := H1.out i hlt
      obtain ⟨b2, off2, rfl, f2⟩ := H2.out i hlt
      have k0 := f1 _ hB.out
      have k1 := f2 _ hB.out
      clear f1 f2 H1 H2
      generalize g i [] = tx at *
      have j0 : (i : Int) < (n : Int) := by omega
      have j1 : (0 : Int) ≤ (i : Int) := by omega
      go_wp2_with fail
      go_quiet (fail)
      go_wp2
      go_roundw
      case rel => exact ⟨i + 1, by go_num, by omega, ⟨hB.out.os, hB.out.tape, hB.out.output, hB.out.size, hB.out.block⟩⟩
      case measure => simp [intOf]; omega
    · obtain rfl : i = n := by omega
      clear H1 H2
      have hw := hB.out
      go_wp2
      go_ret
      exact ⟨rfl, hw⟩
end Go.Proofs.Wk
/- POSITION, IN THE LAW: two rows that are copied at once (a region that draws its order). -/
namespace Go.Proofs.Wk
open Go.RowKit Mt Po

theorem yieldsIf_load_row {P : Program} {ops : Array Oper} {S : World → Prop} {o : Oper} {a : Act} (hw : Region.wanted o (yielded ops a.tmps) = true) (ty : TypeId) (x : Operand) (ho : o.op = .load ty x)
    (g : Nat) (hx : a.eval x = .pointer (some ⟨g, 0, none⟩)) (cs : Array Value) (hS : ∀ w, S w → (loadVar ty ⟨g, 0, none⟩).run P w = .ok (.agg cs) w) : YieldsIf P ops S o (.agg cs) a :=
  .inl ⟨hw, fun w hw' => by
    unfold execOp
    simp only [ho, hx, Instr.loadAt, Instr.sureAddr, Sem.run_bind, Sem.run_pure, Result.andThen_ok, hS w hw']⟩
theorem wp_run_val {P : Program} {o : Oper} {a : Act} {w w' : World} {u : Value} {K : Act → World → Prop} {Q : Exit → Act → World → Prop} (hr : (execOp a.eval o).run P w = .ok (.value u) w') (hK : K (a.put o.dst u) w') : o.wp P a w K Q := by
  unfold Oper.wp
  rw [hr]
  exact hK
/-- A store of a row, which yields nothing. -/
theorem wp_store_rowN {P : Program} {o : Oper} {a : Act} {w : World} {K : Act → World → Prop} {Q : Exit → Act → World → Prop} (hd : o.dst = none) (ty : TypeId) (x y : Operand) (ho : o.op = .store ty x y)
    (g : Nat) (cells : Array Value) (hx : a.eval x = .pointer (some ⟨g, 0, none⟩)) (hy : a.eval y = .agg cells)
    (t : TypeId) (old : Array Value) (hg : w.heap[g]? = some (.cells old t (0, 0))) (hi : (P.info? ty).map (·.size) = some cells.size)
    (hold : old.size = cells.size) (h1 : cells.all (·.oneCell') = true) (h : K a (w.setRow g cells)) : o.wp P a w K Q :=
  wp_store_row ty x y ho g cells hx hy t old hg hi hold h1 (by rw [hd]; exact h)
abbrev zcC : Array Value := #[.string ⟨#[]⟩, .int .i64 0, .int .i64 0, .int .i64 0, .int .i64 0, .int .i64 0, .int .i64 0, .int .i64 0, .slice none 0 0, .int .i64 0, .bool false, .int .i64 0, .int .i64 0, .slice none 0 0, .slice none 0 0, .int .i64 0]
abbrev ztC : Array Value := #[.string ⟨#[]⟩, .string ⟨#[]⟩, .string ⟨#[]⟩, .string ⟨#[]⟩, .string ⟨#[]⟩, .string ⟨#[]⟩]
theorem al_case (o : Oper) (ho : o.op = .alloc 34) {ρ : Operand → Value} (W : World) : (execOp ρ o).run Tryz.prog W = .ok (.value (.pointer (some ⟨W.heap.size, 0, none⟩))) (W.alloc (.cells zcC 34)) := by
  unfold execOp
  rw [ho]
  go_simp
theorem al_tor (o : Oper) (ho : o.op = .alloc 38) {ρ : Operand → Value} (W : World) : (execOp ρ o).run Tryz.prog W = .ok (.value (.pointer (some ⟨W.heap.size, 0, none⟩))) (W.alloc (.cells ztC 38)) := by
  unfold execOp
  rw [ho]
  go_simp
set_option maxRecDepth 100000 in
set_option maxHeartbeats 2000000 in
theorem copyN {id : Nat} {Q : Exit → Act → World → Prop} {a : Act} {w : World} (hsz : a.tmps.size = 89) (hQ : ∀ c (a : Act) d v w, Q (.panic c) (a.put d v) w → Q (.panic c) a w) (g1 g2 : Nat)
    (h1 : a.eval (.tmp 2) = .pointer (some ⟨g1, 0, none⟩)) (h2 : a.eval (.tmp 2) = .pointer (some ⟨g2, 0, none⟩)) (C1 C2 Z1 Z2 : Array Value)
    (r1 : w.heap[g1]? = some (.cells C1 34 (0, 0))) (r2 : w.heap[g2]? = some (.cells C2 34 (0, 0))) (y1 : ∀ W : World, W.heap[g1]? = some (.cells C1 34 (0, 0)) → (loadVar 34 ⟨g1, 0, none⟩).run Tryz.prog W = .ok (.agg C1) W) (y2 : ∀ W : World, W.heap[g2]? = some (.cells C2 34 (0, 0)) → (loadVar 34 ⟨g2, 0, none⟩).run Tryz.prog W = .ok (.agg C2) W)
    (hi1 : (Tryz.prog.info? 34).map (·.size) = some C1.size) (hi2 : (Tryz.prog.info? 34).map (·.size) = some C2.size) (hz1 : Z1.size = C1.size) (hz2 : Z2.size = C2.size) (o1 : C1.all (·.oneCell') = true) (o2 : C2.all (·.oneCell') = true)
    (A2 : ∀ (o : Oper) (_ : o.op = .alloc 34) {ρ : Operand → Value} (W : World), (execOp ρ o).run Tryz.prog W = .ok (.value (.pointer (some ⟨W.heap.size, 0, none⟩))) (W.alloc (.cells Z1 34)))
    (A3 : ∀ (o : Oper) (_ : o.op = .alloc 34) {ρ : Operand → Value} (W : World), (execOp ρ o).run Tryz.prog W = .ok (.value (.pointer (some ⟨W.heap.size, 0, none⟩))) (W.alloc (.cells Z2 34)))
    (h : ∀ g5 g6 W, w.heap.size ≤ g5 → w.heap.size ≤ g6 → g5 ≠ g6 → W.heap[g5]? = some (.cells C1 34 (0, 0)) → W.heap[g6]? = some (.cells C2 34 (0, 0)) → Below w.heap.size w W →
      Q .normal ((((a.put (some 34) (.agg C1)).put (some 35) (.agg C2)).put (some 5) (.pointer (some ⟨g5, 0, none⟩))).put (some 6) (.pointer (some ⟨g6, 0, none⟩))) W) :
    (Code.region id #[{ dst := some 34, op := .load 34 (.tmp 2), type := 34, pos := "law.go:88", after := #[], guard := none },
    { dst := some 35, op := .load 34 (.tmp 2), type := 34, pos := "law.go:88", after := #[{ on := 4, ground := .gcOnly .lateStores }], guard := none },
    { dst := some 5, op := .alloc 34, type := 0, pos := "law.go:88", after := #[], guard := none },
    { dst := some 6, op := .alloc 34, type := 0, pos := "law.go:88", after := #[], guard := none },
    { dst := none, op := .store 34 (.tmp 5) (.tmp 34), type := 0, pos := "law.go:88", after := #[{ on := 2, ground := .data }, { on := 0, ground := .data }, { on := 0, ground := .phase }, { on := 1, ground := .textOnly .lateStores }, { on := 2, ground := .phase }, { on := 3, ground := .phase }], guard := none },
    { dst := none, op := .store 34 (.tmp 6) (.tmp 35), type := 0, pos := "law.go:88", after := #[{ on := 3, ground := .data }, { on := 1, ground := .data }, { on := 4, ground := .chain }, { on := 0, ground := .phase }, { on := 1, ground := .phase }, { on := 2, ground := .phase }, { on := 3, ground := .phase }, { on := 4, ground := .phase }], guard := none }] true).wp Tryz.prog Q a w := by
  have l1 : g1 < w.heap.size := (Array.getElem?_eq_some_iff.1 r1).1
  have l2 : g2 < w.heap.size := (Array.getElem?_eq_some_iff.1 r2).1
  have hx2 : (a.put (some 34) (.agg C1)).eval (.tmp 2) = .pointer (some ⟨g2, 0, none⟩) := by rw [← h2]; simp [Act.eval, Act.put]
  refine wp_region_held_drew (S := (fun W => W.heap[g1]? = some (.cells C1 34 (0, 0)) ∧ W.heap[g2]? = some (.cells C2 34 (0, 0)))) (by kernel_rfl) ⟨r1, r2⟩ (fun hHeld => ?_)
  refine wpAnyH_take (i := 0) (oi := { dst := some 34, op := .load 34 (.tmp 2), type := 34, pos := "law.go:88", after := #[], guard := none }) (v := .agg C1) rfl (by kernel_rfl) (by kernel_rfl) (by kernel_rfl) (fun c a w => hQ c a _ _ w) (yieldsIf_load_row (by rfl) 34 (.tmp 2) rfl g1 h1 C1 (fun W hW => y1 W hW.1)) hHeld ?_
  show wpAnyH _ _ _ _ _ 5 #[true, false, false, false, false, false] (a.put (some 34) (.agg C1)) _
  refine wpAnyH_take (i := 1) (oi := { dst := some 35, op := .load 34 (.tmp 2), type := 34, pos := "law.go:88", after := #[{ on := 4, ground := .gcOnly .lateStores }], guard := none }) (v := .agg C2) rfl (by kernel_rfl) (by kernel_rfl) (by kernel_rfl) (fun c a w => hQ c a _ _ w) (yieldsIf_load_row (by rfl) 34 (.tmp 2) rfl g2 hx2 C2 (fun W hW => y2 W hW.2)) hHeld ?_
  show wpAnyH _ _ _ _ _ 4 #[true, true, false, false, false, false] ((a.put (some 34) (.agg C1)).put (some 35) (.agg C2)) _
  refine wpAnyH_ready (rs := [2, 3]) (by kernel_rfl) (by simp) ?_
  refine AllReadyH.cons (o := { dst := some 5, op := .alloc 34, type := 0, pos := "law.go:88", after := #[], guard := none }) rfl (fun K hK => ?_) (AllReadyH.cons (o := { dst := some 6, op := .alloc 34, type := 0, pos := "law.go:88", after := #[], guard := none }) rfl (fun K hK => ?_) AllReadyH.nil)
  · rw [if_pos (by rfl)]
    refine wp_run_val (u := .pointer (some ⟨w.heap.size, 0, none⟩)) (w' := (w.drew.alloc (.cells Z1 34))) (A2 _ rfl _) ?_
    refine hK.out _ _ ⟨keepD hHeld.1 (below_al _ _), keepD hHeld.2 (below_al _ _)⟩ (fun hHeld2 => ?_)
    clear hK
    show wpAnyH _ _ _ _ _ 3 #[true, true, true, false, false, false] (((a.put (some 34) (.agg C1)).put (some 35) (.agg C2)).put (some 5) (.pointer (some ⟨w.heap.size, 0, none⟩))) _
    refine wpAnyH_ready (rs := [3]) (by kernel_rfl) (by simp) ?_
    refine AllReadyH.cons (o := { dst := some 6, op := .alloc 34, type := 0, pos := "law.go:88", after := #[], guard := none }) rfl (fun K hK => ?_) AllReadyH.nil
    rw [if_pos (by rfl)]
    refine wp_run_val (u := .pointer (some ⟨w.heap.size + 1, 0, none⟩)) (w' := ((w.drew.alloc (.cells Z1 34)).alloc (.cells Z2 34))) (by have := A3 { dst := some 6, op := .alloc 34, type := 0, pos := "law.go:88", after := #[], guard := none } rfl (ρ := (((a.put (some 34) (.agg C1)).put (some 35) (.agg C2)).put (some 5) (.pointer (some ⟨w.heap.size, 0, none⟩))).eval) (w.drew.alloc (.cells Z1 34)); rwa [show (w.drew.alloc (.cells Z1 34)).heap.size = w.heap.size + 1 from World.size_alloc _ _] at this) ?_
    refine hK.out _ _ ⟨keepD hHeld2.1 (below_al _ _), keepD hHeld2.2 (below_al _ _)⟩ (fun hHeld3 => ?_)
    clear hK hHeld2
    show wpAnyH _ _ _ _ _ 2 #[true, true, true, true, false, false] ((((a.put (some 34) (.agg C1)).put (some 35) (.agg C2)).put (some 5) (.pointer (some ⟨w.heap.size, 0, none⟩))).put (some 6) (.pointer (some ⟨(w.heap.size + 1), 0, none⟩))) _
    have HN : ((w.drew.alloc (.cells Z1 34)).alloc (.cells Z2 34)).heap[w.heap.size + 1]? = some (.cells Z2 34 (0, 0)) := nw2 w.drew _ _ _ _
    have HM : ((w.drew.alloc (.cells Z1 34)).alloc (.cells Z2 34)).heap[w.heap.size]? = some (.cells Z1 34 (0, 0)) := keepD (heap_alloc_new w.drew _) (below_al _ _)
    have HB : Below w.heap.size w ((w.drew.alloc (.cells Z1 34)).alloc (.cells Z2 34)) := ((Below.refl _ _).drew.nx (below_al _ _)).nx (below_al _ _)
    generalize ((w.drew.alloc (.cells Z1 34)).alloc (.cells Z2 34)) = W2 at *
    refine wpAnyH_ready (rs := [4]) (by kernel_rfl) (by simp) ?_
    refine AllReadyH.cons (o := { dst := none, op := .store 34 (.tmp 5) (.tmp 34), type := 0, pos := "law.go:88", after := #[{ on := 2, ground := .data }, { on := 0, ground := .data }, { on := 0, ground := .phase }, { on := 1, ground := .textOnly .lateStores }, { on := 2, ground := .phase }, { on := 3, ground := .phase }], guard := none }) rfl (fun K hK => ?_) AllReadyH.nil
    rw [if_pos (by rfl)]
    refine wp_store_rowN rfl 34 (.tmp 5) (.tmp 34) rfl w.heap.size C1 (by simp [Act.eval, Act.put, hsz]) (by simp [Act.eval, Act.put, hsz]) 34 Z1 HM hi1 hz1 o1 ?_
    refine hK.out _ _ ⟨(setRow_other _ _ _ _ (by omega)).trans hHeld3.1, (setRow_other _ _ _ _ (by omega)).trans hHeld3.2⟩ (fun hHeld4 => ?_)
    clear hK hHeld3
    show wpAnyH _ _ _ _ _ 1 #[true, true, true, true, true, false] ((((a.put (some 34) (.agg C1)).put (some 35) (.agg C2)).put (some 5) (.pointer (some ⟨w.heap.size, 0, none⟩))).put (some 6) (.pointer (some ⟨(w.heap.size + 1), 0, none⟩))) _
    refine wpAnyH_ready (rs := [5]) (by kernel_rfl) (by simp) ?_
    refine AllReadyH.cons (o := { dst := none, op := .store 34 (.tmp 6) (.tmp 35), type := 0, pos := "law.go:88", after := #[{ on := 3, ground := .data }, { on := 1, ground := .data }, { on := 4, ground := .chain }, { on := 0, ground := .phase }, { on := 1, ground := .phase }, { on := 2, ground := .phase }, { on := 3, ground := .phase }, { on := 4, ground := .phase }], guard := none }) rfl (fun K hK => ?_) AllReadyH.nil
    rw [if_pos (by rfl)]
    refine wp_store_rowN rfl 34 (.tmp 6) (.tmp 35) rfl (w.heap.size + 1) C2 (by simp [Act.eval, Act.put, hsz]) (by simp [Act.eval, Act.put, hsz]) 34 Z2 ((setRow_other _ _ _ _ (by omega)).trans HN) hi2 hz2 o2 ?_
    refine hK.out _ _ ⟨(setRow_other _ _ _ _ (by omega)).trans hHeld4.1, (setRow_other _ _ _ _ (by omega)).trans hHeld4.2⟩ (fun hHeld5 => ?_)
    clear hK hHeld4 hHeld5
    refine wpAnyH_done (by kernel_rfl) ?_ _
    have HF := h w.heap.size (w.heap.size + 1) ((W2.setRow w.heap.size C1).setRow (w.heap.size + 1) C2) (by omega) (by omega) (by omega) ((setRow_other _ _ _ _ (by omega)).trans (setRow_heap _ _ _ _ _ _ HM)) (setRow_heap _ _ _ _ _ _ ((setRow_other _ _ _ _ (by omega)).trans HN)) (below_setRow (below_setRow HB (by omega) _) (by omega) _)
    exact HF
  · rw [if_pos (by rfl)]
    refine wp_run_val (u := .pointer (some ⟨w.heap.size, 0, none⟩)) (w' := (w.drew.alloc (.cells Z2 34))) (A3 _ rfl _) ?_
    refine hK.out _ _ ⟨keepD hHeld.1 (below_al _ _), keepD hHeld.2 (below_al _ _)⟩ (fun hHeld2 => ?_)
    clear hK
    show wpAnyH _ _ _ _ _ 3 #[true, true, false, true, false, false] (((a.put (some 34) (.agg C1)).put (some 35) (.agg C2)).put (some 6) (.pointer (some ⟨w.heap.size, 0, none⟩))) _
    refine wpAnyH_ready (rs := [2]) (by kernel_rfl) (by simp) ?_
    refine AllReadyH.cons (o := { dst := some 5, op := .alloc 34, type := 0, pos := "law.go:88", after := #[], guard := none }) rfl (fun K hK => ?_) AllReadyH.nil
    rw [if_pos (by rfl)]
    refine wp_run_val (u := .pointer (some ⟨w.heap.size + 1, 0, none⟩)) (w' := ((w.drew.alloc (.cells Z2 34)).alloc (.cells Z1 34))) (by have := A2 { dst := some 5, op := .alloc 34, type := 0, pos := "law.go:88", after := #[], guard := none } rfl (ρ := (((a.put (some 34) (.agg C1)).put (some 35) (.agg C2)).put (some 6) (.pointer (some ⟨w.heap.size, 0, none⟩))).eval) (w.drew.alloc (.cells Z2 34)); rwa [show (w.drew.alloc (.cells Z2 34)).heap.size = w.heap.size + 1 from World.size_alloc _ _] at this) ?_
    refine hK.out _ _ ⟨keepD hHeld2.1 (below_al _ _), keepD hHeld2.2 (below_al _ _)⟩ (fun hHeld3 => ?_)
    clear hK hHeld2
    show wpAnyH _ _ _ _ _ 2 #[true, true, true, true, false, false] ((((a.put (some 34) (.agg C1)).put (some 35) (.agg C2)).put (some 6) (.pointer (some ⟨w.heap.size, 0, none⟩))).put (some 5) (.pointer (some ⟨(w.heap.size + 1), 0, none⟩))) _
    have HN : ((w.drew.alloc (.cells Z2 34)).alloc (.cells Z1 34)).heap[w.heap.size + 1]? = some (.cells Z1 34 (0, 0)) := nw2 w.drew _ _ _ _
    have HM : ((w.drew.alloc (.cells Z2 34)).alloc (.cells Z1 34)).heap[w.heap.size]? = some (.cells Z2 34 (0, 0)) := keepD (heap_alloc_new w.drew _) (below_al _ _)
    have HB : Below w.heap.size w ((w.drew.alloc (.cells Z2 34)).alloc (.cells Z1 34)) := ((Below.refl _ _).drew.nx (below_al _ _)).nx (below_al _ _)
    generalize ((w.drew.alloc (.cells Z2 34)).alloc (.cells Z1 34)) = W2 at *
    refine wpAnyH_ready (rs := [4]) (by kernel_rfl) (by simp) ?_
    refine AllReadyH.cons (o := { dst := none, op := .store 34 (.tmp 5) (.tmp 34), type := 0, pos := "law.go:88", after := #[{ on := 2, ground := .data }, { on := 0, ground := .data }, { on := 0, ground := .phase }, { on := 1, ground := .textOnly .lateStores }, { on := 2, ground := .phase }, { on := 3, ground := .phase }], guard := none }) rfl (fun K hK => ?_) AllReadyH.nil
    rw [if_pos (by rfl)]
    refine wp_store_rowN rfl 34 (.tmp 5) (.tmp 34) rfl (w.heap.size + 1) C1 (by simp [Act.eval, Act.put, hsz]) (by simp [Act.eval, Act.put, hsz]) 34 Z1 HN hi1 hz1 o1 ?_
    refine hK.out _ _ ⟨(setRow_other _ _ _ _ (by omega)).trans hHeld3.1, (setRow_other _ _ _ _ (by omega)).trans hHeld3.2⟩ (fun hHeld4 => ?_)
    clear hK hHeld3
    show wpAnyH _ _ _ _ _ 1 #[true, true, true, true, true, false] ((((a.put (some 34) (.agg C1)).put (some 35) (.agg C2)).put (some 6) (.pointer (some ⟨w.heap.size, 0, none⟩))).put (some 5) (.pointer (some ⟨(w.heap.size + 1), 0, none⟩))) _
    refine wpAnyH_ready (rs := [5]) (by kernel_rfl) (by simp) ?_
    refine AllReadyH.cons (o := { dst := none, op := .store 34 (.tmp 6) (.tmp 35), type := 0, pos := "law.go:88", after := #[{ on := 3, ground := .data }, { on := 1, ground := .data }, { on := 4, ground := .chain }, { on := 0, ground := .phase }, { on := 1, ground := .phase }, { on := 2, ground := .phase }, { on := 3, ground := .phase }, { on := 4, ground := .phase }], guard := none }) rfl (fun K hK => ?_) AllReadyH.nil
    rw [if_pos (by rfl)]
    refine wp_store_rowN rfl 34 (.tmp 6) (.tmp 35) rfl w.heap.size C2 (by simp [Act.eval, Act.put, hsz]) (by simp [Act.eval, Act.put, hsz]) 34 Z2 ((setRow_other _ _ _ _ (by omega)).trans HM) hi2 hz2 o2 ?_
    refine hK.out _ _ ⟨(setRow_other _ _ _ _ (by omega)).trans hHeld4.1, (setRow_other _ _ _ _ (by omega)).trans hHeld4.2⟩ (fun hHeld5 => ?_)
    clear hK hHeld4 hHeld5
    refine wpAnyH_done (by kernel_rfl) ?_ _
    have HF := h (w.heap.size + 1) w.heap.size ((W2.setRow (w.heap.size + 1) C1).setRow w.heap.size C2) (by omega) (by omega) (by omega) ((setRow_other _ _ _ _ (by omega)).trans (setRow_heap _ _ _ _ _ _ HN)) (setRow_heap _ _ _ _ _ _ ((setRow_other _ _ _ _ (by omega)).trans HM)) (below_setRow (below_setRow HB (by omega) _) (by omega) _)
    rwa [Act.put_comm ((a.put (some 34) (.agg C1)).put (some 35) (.agg C2)) _ _ (fun d e1 e2 => by cases e1; cases e2)] at HF
end Go.Proofs.Wk
/- POSITION: sums of torsors, in the program. -/
namespace Go.Proofs.Wk
open Go.RowKit Mt Po

set_option maxRecDepth 100000 in
set_option maxHeartbeats 2000000 in
theorem tmade_c (t : TT) (w : World) : Calls Tryz.prog 91 #[ttV t] w (Ret w (ttV t)) := by
  obtain ⟨a0, a1, a2, b0, b1, b2⟩ := t
  go_enter Tryz.func91, Tryz.ntmps91
  go_wp2
  refine bodyPost_ret (results_cell_row rfl _ _ (w.heap.size + 1) 38 #[.string ⟨a0.toArray⟩, .string ⟨a1.toArray⟩, .string ⟨a2.toArray⟩, .string ⟨b0.toArray⟩, .string ⟨b1.toArray⟩, .string ⟨b2.toArray⟩] (0, 0) _ (by kernel_rfl) (nw2 w _ _ _ _) Tryz.underlying38 rfl (by kernel_rfl)) rfl ?_
  exact ⟨rfl, bx2 w _ _⟩
set_option maxRecDepth 100000 in
set_option maxHeartbeats 2000000 in
theorem add1_c (p q : Rat) (i : Nat) (gx gy : Nat) (w : World) (hg : Good w) (hi : i < 6) (hx : w.cell? ⟨gx, i, none⟩ = some (.string ⟨(rtoa p).toArray⟩)) (hy : w.cell? ⟨gy, i, none⟩ = some (.string ⟨(rtoa q).toArray⟩)) (hp : szV p 25 0) (hq : szV q 25 0) :
    Calls Tryz.prog 49 #[.int .i64 (i : Int), .pointer (some ⟨gx, 0, none⟩), .pointer (some ⟨gy, 0, none⟩)] w (Ret w (ans2 (rtoa (p + q), 0))) := by
  have HA := Lib.hid (fun W (h : Below w.heap.size w W) => addR hp hq (m := 0) (Nat.le_refl _) (Nat.le_refl _) (by omega) W (hg.later h))
  have l1 := World.block_lt_of_cell? w _ hx
  have l2 := World.block_lt_of_cell? w _ hy
  have HK := Lib.hid (fun (W : World) (h : Below w.heap.size w W) => (⟨by rw [h.cell (p := ⟨gx, i, none⟩) l1]; exact hx, by rw [h.cell (p := ⟨gy, i, none⟩) l2]; exact hy, h⟩ : W.cell? ⟨gx, i, none⟩ = some (.string ⟨(rtoa p).toArray⟩) ∧ W.cell? ⟨gy, i, none⟩ = some (.string ⟨(rtoa q).toArray⟩) ∧ Below w.heap.size w W))
  have hB : Below w.heap.size w w := Below.refl _ _
  clear hg hp hq hx hy l1 l2
  generalize rtoa (p + q) = tz at *
  generalize rtoa p = tx at *
  generalize rtoa q = ty at *
  have j0 : (i : Int) < 6 := by omega
  have j1 : (0 : Int) ≤ (i : Int) := by omega
  clear hi
  go_enter Tryz.func49, Tryz.ntmps49
  go_upto_region 1 with fail
  go_region_held3 (fun W => W.cell? ⟨gx, i, none⟩ = some (.string ⟨tx.toArray⟩) ∧ W.cell? ⟨gy, i, none⟩ = some (.string ⟨ty.toArray⟩) ∧ Below w.heap.size w W)
    (first | with_reducible exact HK.out _ B1 | with_reducible exact HK.out _ hB | with_reducible exact HK.out _ hB.drew)
    (first
      | (go_at_call 50; (first | (with_reducible refine (HA.out _ hB.drew).mono ?_) | (with_reducible refine (HA.out _ hB).mono ?_)); rintro e v1 ⟨rfl, hb1⟩; (first | (with_reducible have B1 := hB.drew.nx hb1) | (with_reducible have B1 := hB.nx hb1)))
      | fail)
  all_goals
    have HB := Lib.hid B1
    clear hb1 B1 hB
    go_wp2
    go_ret2
    exact ⟨rfl, HB.out⟩
end Go.Proofs.Wk
/- POSITION: sums of torsors, in the program: the numbers one by one. -/
namespace Go.Proofs.Wk
open Go.RowKit Mt Po

/-- Six texts of which the first ones are laid. -/
def gI (tx : Nat → Txt) (i k : Nat) : Value := if k < i then .string ⟨(tx k).toArray⟩ else .string ⟨#[]⟩
def filT (tx : Nat → Txt) (i : Nat) : Array Value := #[gI tx i 0, gI tx i 1, gI tx i 2, gI tx i 3, gI tx i 4, gI tx i 5]
theorem filT_step (tx : Nat → Txt) {i : Nat} (hi : i < 6) : (filT tx i).setIfInBounds i (.string ⟨(tx i).toArray⟩) = filT tx (i + 1) := by
  rcases (by omega : i = 0 ∨ i = 1 ∨ i = 2 ∨ i = 3 ∨ i = 4 ∨ i = 5) with rfl | rfl | rfl | rfl | rfl | rfl <;> rfl
theorem filT_cell {tx : Nat → Txt} {W : World} {g i : Nat} {T : TypeId} (h : W.heap[g]? = some (.cells (filT tx i) T (0, 0))) {k : Nat} (hk : k < 6) : W.cell? ⟨g, k, none⟩ = some (gI tx i k) := by
  obtain ⟨k0, k1, k2, k3, k4, k5⟩ := c6row h
  rcases (by omega : k = 0 ∨ k = 1 ∨ k = 2 ∨ k = 3 ∨ k = 4 ∨ k = 5) with rfl | rfl | rfl | rfl | rfl | rfl
  · exact k0
  · exact k1
  · exact k2
  · exact k3
  · exact k4
  · exact k5
abbrev z6C : Array Value := #[.string ⟨#[]⟩, .string ⟨#[]⟩, .string ⟨#[]⟩, .string ⟨#[]⟩, .string ⟨#[]⟩, .string ⟨#[]⟩]
theorem Tw.fil {w W : World} {g2 g4 i : Nat} {tx : Nat → Txt} {T2 T4 : TypeId} (h : Tw w W g2 g4 (.cells z6C T2 (0, 0)) (.cells (filT tx i) T4 (0, 0))) (hi : i < 6) (hn : g2 ≠ g4) (h4 : w.heap.size ≤ g4) :
    Tw w (W.setCell ⟨g4, i, none⟩ (.string ⟨(tx i).toArray⟩)) g2 g4 (.cells z6C T2 (0, 0)) (.cells (filT tx (i + 1)) T4 (0, 0)) :=
  ⟨(heap_setCell_other _ _ _ _ hn).trans h.a, by rw [heap_setCell_same _ g4 i _ _ _ h.b, filT_step tx hi], h.w.cel (p := ⟨g4, i, none⟩) h4 _⟩
set_option maxRecDepth 100000 in
set_option maxHeartbeats 4000000 in
theorem mapped_c (tx : Nat → Txt) (gx gy : Nat) (w : World) (HF : ∀ i : Nat, i < 6 → ∀ W, Below w.heap.size w W → Calls Tryz.prog 49 #[.int .i64 (i : Int), .pointer (some ⟨gx, 0, none⟩), .pointer (some ⟨gy, 0, none⟩)] W (Ret W (ans2 (tx i, 0)))) :
    Calls Tryz.prog 48 #[.func (.func 49) #[] #[.pointer (some ⟨gx, 0, none⟩), .pointer (some ⟨gy, 0, none⟩)]] w (Ret w (.tuple #[ttV ⟨tx 0, tx 1, tx 2, tx 3, tx 4, tx 5⟩, .int .i64 0])) := by
  have HC := Lib.hid HF
  have hJ := Tw.new w z6C.toList (filT tx 0).toList 38 110
  obtain ⟨t0, h0⟩ : ∃ t, tx 0 = t := ⟨_, rfl⟩
  obtain ⟨t1, h1⟩ : ∃ t, tx 1 = t := ⟨_, rfl⟩
  obtain ⟨t2, h2⟩ : ∃ t, tx 2 = t := ⟨_, rfl⟩
  obtain ⟨t3, h3⟩ : ∃ t, tx 3 = t := ⟨_, rfl⟩
  obtain ⟨t4, h4⟩ : ∃ t, tx 4 = t := ⟨_, rfl⟩
  obtain ⟨t5, h5⟩ : ∃ t, tx 5 = t := ⟨_, rfl⟩
  rw [h0, h1, h2, h3, h4, h5]
  have HT := Lib.hid (show tx 0 = t0 ∧ tx 1 = t1 ∧ tx 2 = t2 ∧ tx 3 = t3 ∧ tx 4 = t4 ∧ tx 5 = t5 from ⟨h0, h1, h2, h3, h4, h5⟩)
  clear HF h0 h1 h2 h3 h4 h5
  go_enter Tryz.func48, Tryz.ntmps48
  go_upto_region 2 with fail
  generalize hW0 : (w.alloc (.cells #[.string ⟨#[]⟩, .string ⟨#[]⟩, .string ⟨#[]⟩, .string ⟨#[]⟩, .string ⟨#[]⟩, .string ⟨#[]⟩] 38)).alloc (.cells #[.string ⟨#[]⟩, .string ⟨#[]⟩, .string ⟨#[]⟩, .string ⟨#[]⟩, .string ⟨#[]⟩, .string ⟨#[]⟩] 110) = W0 at *
  have HJ0 : Hid (Tw w W0 w.heap.size (w.heap.size + 1) (.cells z6C 38 (0, 0)) (.cells (filT tx 0) 110 (0, 0))) := Lib.hid (hW0 ▸ hJ)
  clear hW0 hJ
  go_wp2_with fail
  go_loopw [8] (fun si wr => ∃ i : Nat, si = .int .i64 (i : Int) ∧ i ≤ 6 ∧ Hid (Tw w wr w.heap.size (w.heap.size + 1) (.cells z6C 38 (0, 0)) (.cells (filT tx i) 110 (0, 0)))) (fun si _ => 6 - (intOf si).toNat)
  case atStart => exact ⟨0, rfl, Nat.zero_le _, HJ0.out⟩
  case round =>
    obtain ⟨i, rfl, hi, hJ⟩ := hrel
    by_cases hlt : i < 6
    · have HC1 := Lib.hid (HC.out i hlt)
      have HP := Lib.hid (fun W (h : Tw w W w.heap.size (w.heap.size + 1) (.cells z6C 38 (0, 0)) (.cells (filT tx i) 110 (0, 0))) => h.fil hlt (Nat.ne_of_lt (Nat.lt_succ_self _)) (Nat.le_succ _))
      have HQ := Lib.hid (fun W (h : Tw w W w.heap.size (w.heap.size + 1) (.cells z6C 38 (0, 0)) (.cells (filT tx i) 110 (0, 0))) => filT_cell h.b hlt)
      have j0 : (i : Int) < 6 := by omega
      have j1 : (0 : Int) ≤ (i : Int) := by omega
      clear HC HJ0
      generalize gI tx i i = gv at *
      generalize hti : tx i = ti at *
      clear hti
      go_wp2_with fail
      ((with_reducible refine (HC1.out _ hJ.out.w).mono ?_); rintro e w2 ⟨rfl, hb2⟩)
      have HJ2 := Lib.hid (hJ.out.later hb2)
      have k0 := HQ.out _ HJ2.out
      have hff : w2.frozen? ⟨w.heap.size + 1, i, none⟩ = false := free_row HJ2.out.b i
      have HJ3 := Lib.hid (HP.out _ HJ2.out)
      clear hb2 hJ HC1 HQ HP HJ2
      go_wp2
      go_roundw
      case rel => exact ⟨i + 1, by go_num, by omega, HJ3.out⟩
      case measure => simp [intOf]; omega
    · obtain rfl : i = 6 := by omega
      obtain ⟨h0, h1, h2, h3, h4, h5⟩ := HT.out
      have hb : wr.heap[w.heap.size + 1]? = some (.cells #[.string ⟨t0.toArray⟩, .string ⟨t1.toArray⟩, .string ⟨t2.toArray⟩, .string ⟨t3.toArray⟩, .string ⟨t4.toArray⟩, .string ⟨t5.toArray⟩] 110 (0, 0)) := by
        subst h0 h1 h2 h3 h4 h5
        exact hJ.out.b
      have HM := Lib.hid (fun W => tmade_c ⟨t0, t1, t2, t3, t4, t5⟩ W)
      obtain ⟨k0, k1, k2, k3, k4, k5⟩ := c6row hb
      have ha := hJ.out.a
      have hw := hJ.out.w
      clear hb h0 h1 h2 h3 h4 h5 HT HC HJ0 hJ
      go_wp2_with fail
      ((with_reducible refine (HM.out _).mono ?_); rintro e w2 ⟨rfl, hb2⟩)
      have ha2 := keepD ha hb2
      have hw2 := hw.nx hb2
      clear k0 k1 k2 k3 k4 k5 HM hb2 ha hw
      obtain ⟨r0, r1, r2, r3, r4, r5⟩ := c6row ha2
      have hf := fun j => free_row ha2 j
      go_wp2
      refine bodyPost_ret (res_ct rfl rfl (s6row ha2) Tryz.underlying38 rfl (by kernel_rfl) rfl) rfl ?_
      exact ⟨rfl, (((((hw2.cel (p := ⟨w.heap.size, 0, none⟩) (Nat.le_refl _) _).cel (p := ⟨w.heap.size, 1, none⟩) (Nat.le_refl _) _).cel (p := ⟨w.heap.size, 2, none⟩) (Nat.le_refl _) _).cel (p := ⟨w.heap.size, 3, none⟩) (Nat.le_refl _) _).cel (p := ⟨w.heap.size, 4, none⟩) (Nat.le_refl _) _).cel (p := ⟨w.heap.size, 5, none⟩) (Nat.le_refl _) _⟩
end Go.Proofs.Wk
/- POSITION: sums of torsors, in the program: the numbers of both (a region that draws its order). -/
namespace Go.Proofs.Wk
open Go.RowKit Mt Po

theorem wp_run_call {P : Program} {o : Oper} {a : Act} {w : World} {f : FuncId} {args : Array Value} {K : Act → World → Prop} {Q : Exit → Act → World → Prop} (hr : (execOp a.eval o).run P w = .ok (.enter f args) w)
    (hc : Calls P f args w fun e w' => ∃ u, e = .returned u ∧ K (a.put o.dst u) w') : o.wp P a w K Q := by
  unfold Oper.wp
  rw [hr]
  refine hc.mono ?_
  rintro e w' ⟨u, rfl, h2⟩
  exact h2
theorem al_six (o : Oper) (ho : o.op = .alloc 110) {ρ : Operand → Value} (W : World) : (execOp ρ o).run Tryz.prog W = .ok (.value (.pointer (some ⟨W.heap.size, 0, none⟩))) (W.alloc (.cells z6C 110)) := by
  unfold execOp
  rw [ho]
  go_simp
set_option maxRecDepth 100000 in
set_option maxHeartbeats 8000000 in
theorem addR8 {id : Nat} {Q : Exit → Act → World → Prop} {a : Act} {w : World} (hsz : a.tmps.size = 34) (hQ : ∀ c (a : Act) d v w, Q (.panic c) (a.put d v) w → Q (.panic c) a w) (g1 g2 : Nat)
    (h1 : a.eval (.tmp 2) = .pointer (some ⟨g1, 0, none⟩)) (h2 : a.eval (.tmp 3) = .pointer (some ⟨g2, 0, none⟩)) (C1 C2 N1 N2 : Array Value)
    (r1 : w.heap[g1]? = some (.cells C1 38 (0, 0))) (r2 : w.heap[g2]? = some (.cells C2 38 (0, 0)))
    (y1 : ∀ W : World, W.heap[g1]? = some (.cells C1 38 (0, 0)) → (loadVar 38 ⟨g1, 0, none⟩).run Tryz.prog W = .ok (.agg C1) W) (y2 : ∀ W : World, W.heap[g2]? = some (.cells C2 38 (0, 0)) → (loadVar 38 ⟨g2, 0, none⟩).run Tryz.prog W = .ok (.agg C2) W)
    (c1 : ∀ W, Calls Tryz.prog 47 #[.agg C1] W (Ret W (.agg N1))) (c2 : ∀ W, Calls Tryz.prog 47 #[.agg C2] W (Ret W (.agg N2)))
    (n1 : (Tryz.prog.info? 110).map (·.size) = some N1.size) (n2 : (Tryz.prog.info? 110).map (·.size) = some N2.size) (hz1 : (z6C).size = N1.size) (hz2 : (z6C).size = N2.size) (o1 : N1.all (·.oneCell') = true) (o2 : N2.all (·.oneCell') = true)
    (h : ∀ g5 g6 W, w.heap.size ≤ g5 → w.heap.size ≤ g6 → g5 ≠ g6 → W.heap[g5]? = some (.cells N1 110 (0, 0)) → W.heap[g6]? = some (.cells N2 110 (0, 0)) → Below w.heap.size w W → Q .normal ((((((a.put (some 26) (.agg C1)).put (some 28) (.agg C2)).put (some 27) (.agg N1)).put (some 29) (.agg N2)).put (some 9) (.pointer (some ⟨g5, 0, none⟩))).put (some 10) (.pointer (some ⟨g6, 0, none⟩))) W) :
    (Code.region id #[{ dst := some 26, op := .load 38 (.tmp 2), type := 38, pos := "torsor.go:117", after := #[], guard := none },
    { dst := some 27, op := .call { callee := .value (.func 47), args := #[.tmp 26], argTypes := #[38] }, type := 110, pos := "torsor.go:117", after := #[{ on := 0, ground := .data }], guard := none },
    { dst := some 28, op := .load 38 (.tmp 3), type := 38, pos := "torsor.go:117", after := #[], guard := none },
    { dst := some 29, op := .call { callee := .value (.func 47), args := #[.tmp 28], argTypes := #[38] }, type := 110, pos := "torsor.go:117", after := #[{ on := 2, ground := .data }, { on := 1, ground := .chain }], guard := none },
    { dst := some 9, op := .alloc 110, type := 0, pos := "torsor.go:117", after := #[], guard := none },
    { dst := some 10, op := .alloc 110, type := 0, pos := "torsor.go:117", after := #[], guard := none },
    { dst := none, op := .store 110 (.tmp 9) (.tmp 27), type := 0, pos := "torsor.go:117", after := #[{ on := 4, ground := .data }, { on := 1, ground := .data }, { on := 3, ground := .chain }, { on := 0, ground := .phase }, { on := 1, ground := .phase }, { on := 2, ground := .textOnly .lateStores }, { on := 3, ground := .textOnly .lateStoresUnsure }, { on := 4, ground := .phase }, { on := 5, ground := .phase }], guard := none },
    { dst := none, op := .store 110 (.tmp 10) (.tmp 29), type := 0, pos := "torsor.go:117", after := #[{ on := 5, ground := .data }, { on := 3, ground := .data }, { on := 6, ground := .chain }, { on := 0, ground := .phase }, { on := 1, ground := .phase }, { on := 2, ground := .phase }, { on := 3, ground := .phase }, { on := 4, ground := .phase }, { on := 5, ground := .phase }, { on := 6, ground := .phase }], guard := none }] true).wp Tryz.prog Q a w := by
  have AL := @al_six
  have hx2 : (a.put (some 26) (.agg C1)).eval (.tmp 3) = .pointer (some ⟨g2, 0, none⟩) := by rw [← h2]; simp [Act.eval, Act.put]
  refine wp_region_held_drew (S := (fun W => W.heap[g1]? = some (.cells C1 38 (0, 0)) ∧ W.heap[g2]? = some (.cells C2 38 (0, 0)))) (by kernel_rfl) ⟨r1, r2⟩ (fun hHeld => ?_)
  refine wpAnyH_take (i := 0) (oi := { dst := some 26, op := .load 38 (.tmp 2), type := 38, pos := "torsor.go:117", after := #[], guard := none }) (v := .agg C1) rfl (by kernel_rfl) (by kernel_rfl) (by kernel_rfl) (fun c a w => hQ c a _ _ w) (yieldsIf_load_row (by rfl) 38 (.tmp 2) rfl g1 h1 C1 (fun W hW => y1 W hW.1)) hHeld ?_
  show wpAnyH _ _ _ _ _ 7 #[true, false, false, false, false, false, false, false] (a.put (some 26) (.agg C1)) _
  refine wpAnyH_take (i := 2) (oi := { dst := some 28, op := .load 38 (.tmp 3), type := 38, pos := "torsor.go:117", after := #[], guard := none }) (v := .agg C2) rfl (by kernel_rfl) (by kernel_rfl) (by kernel_rfl) (fun c a w => hQ c a _ _ w) (yieldsIf_load_row (by rfl) 38 (.tmp 3) rfl g2 hx2 C2 (fun W hW => y2 W hW.2)) hHeld ?_
  show wpAnyH _ _ _ _ _ 6 #[true, false, true, false, false, false, false, false] ((a.put (some 26) (.agg C1)).put (some 28) (.agg C2)) _
  clear hHeld
  have HB0 : Below w.heap.size w w.drew := (Below.refl _ _).drew
  generalize w.drew = w0 at *
  refine wpAnyH_ready (rs := [1, 4, 5]) (by kernel_rfl) (by simp) ?_
  refine (AllReadyH.cons (o := { dst := some 27, op := .call { callee := .value (.func 47), args := #[.tmp 26], argTypes := #[38] }, type := 110, pos := "torsor.go:117", after := #[{ on := 0, ground := .data }], guard := none }) rfl (fun K hK => ?_) (AllReadyH.cons (o := { dst := some 9, op := .alloc 110, type := 0, pos := "torsor.go:117", after := #[], guard := none }) rfl (fun K hK => ?_) (AllReadyH.cons (o := { dst := some 10, op := .alloc 110, type := 0, pos := "torsor.go:117", after := #[], guard := none }) rfl (fun K hK => ?_) AllReadyH.nil)))
  · rw [if_pos (by rfl)]
    refine wp_run_call (f := 47) (args := #[.agg C1]) (by simp [go_sem, Act.eval, Act.put, hsz]) ((c1 w0).mono ?_)
    rintro e v1 ⟨rfl, hb1⟩
    refine ⟨_, rfl, ?_⟩
    have HB1 := HB0.nx hb1
    refine hK.out _ _ ⟨keepD r1 HB1, keepD r2 HB1⟩ (fun _ => ?_)
    clear hK
    show wpAnyH _ _ _ _ _ 5 #[true, true, true, false, false, false, false, false] (((a.put (some 26) (.agg C1)).put (some 28) (.agg C2)).put (some 27) (.agg N1)) _
    refine wpAnyH_ready (rs := [3, 4, 5]) (by kernel_rfl) (by simp) ?_
    refine (AllReadyH.cons (o := { dst := some 29, op := .call { callee := .value (.func 47), args := #[.tmp 28], argTypes := #[38] }, type := 110, pos := "torsor.go:117", after := #[{ on := 2, ground := .data }, { on := 1, ground := .chain }], guard := none }) rfl (fun K hK => ?_) (AllReadyH.cons (o := { dst := some 9, op := .alloc 110, type := 0, pos := "torsor.go:117", after := #[], guard := none }) rfl (fun K hK => ?_) (AllReadyH.cons (o := { dst := some 10, op := .alloc 110, type := 0, pos := "torsor.go:117", after := #[], guard := none }) rfl (fun K hK => ?_) AllReadyH.nil)))
    · rw [if_pos (by rfl)]
      refine wp_run_call (f := 47) (args := #[.agg C2]) (by simp [go_sem, Act.eval, Act.put, hsz]) ((c2 v1).mono ?_)
      rintro e v2 ⟨rfl, hb2⟩
      refine ⟨_, rfl, ?_⟩
      have HB2 := HB1.nx hb2
      refine hK.out _ _ ⟨keepD r1 HB2, keepD r2 HB2⟩ (fun _ => ?_)
      clear hK
      show wpAnyH _ _ _ _ _ 4 #[true, true, true, true, false, false, false, false] ((((a.put (some 26) (.agg C1)).put (some 28) (.agg C2)).put (some 27) (.agg N1)).put (some 29) (.agg N2)) _
      refine wpAnyH_ready (rs := [4, 5]) (by kernel_rfl) (by simp) ?_
      refine (AllReadyH.cons (o := { dst := some 9, op := .alloc 110, type := 0, pos := "torsor.go:117", after := #[], guard := none }) rfl (fun K hK => ?_) (AllReadyH.cons (o := { dst := some 10, op := .alloc 110, type := 0, pos := "torsor.go:117", after := #[], guard := none }) rfl (fun K hK => ?_) AllReadyH.nil))
      · rw [if_pos (by rfl)]
        refine wp_run_val (u := .pointer (some ⟨v2.heap.size, 0, none⟩)) (w' := v2.alloc (.cells z6C 110)) (AL _ rfl _) ?_
        have hb3 := below_al v2 (.cells z6C 110)
        have HB3 := HB2.nx hb3
        refine hK.out _ _ ⟨keepD r1 HB3, keepD r2 HB3⟩ (fun _ => ?_)
        clear hK
        have hr3 := heap_alloc_new v2 (.cells z6C 110)
        have lg3 : w.heap.size ≤ v2.heap.size := HB2.size
        clear hb3
        generalize v2.alloc (.cells z6C 110) = v3 at *
        generalize v2.heap.size = g3 at *
        show wpAnyH _ _ _ _ _ 3 #[true, true, true, true, true, false, false, false] (((((a.put (some 26) (.agg C1)).put (some 28) (.agg C2)).put (some 27) (.agg N1)).put (some 29) (.agg N2)).put (some 9) (.pointer (some ⟨g3, 0, none⟩))) _
        refine wpAnyH_ready (rs := [5]) (by kernel_rfl) (by simp) ?_
        refine (AllReadyH.cons (o := { dst := some 10, op := .alloc 110, type := 0, pos := "torsor.go:117", after := #[], guard := none }) rfl (fun K hK => ?_) AllReadyH.nil)
        · rw [if_pos (by rfl)]
          refine wp_run_val (u := .pointer (some ⟨v3.heap.size, 0, none⟩)) (w' := v3.alloc (.cells z6C 110)) (AL _ rfl _) ?_
          have hb4 := below_al v3 (.cells z6C 110)
          have HB4 := HB3.nx hb4
          refine hK.out _ _ ⟨keepD r1 HB4, keepD r2 HB4⟩ (fun _ => ?_)
          clear hK
          have hr4 := heap_alloc_new v3 (.cells z6C 110)
          have lg4 : w.heap.size ≤ v3.heap.size := HB3.size
          have hk4 := keepD hr3 hb4
          have hl4 : g3 < v3.heap.size := (Array.getElem?_eq_some_iff.1 hr3).1
          clear hb4
          generalize v3.alloc (.cells z6C 110) = v4 at *
          generalize v3.heap.size = g4 at *
          show wpAnyH _ _ _ _ _ 2 #[true, true, true, true, true, true, false, false] ((((((a.put (some 26) (.agg C1)).put (some 28) (.agg C2)).put (some 27) (.agg N1)).put (some 29) (.agg N2)).put (some 9) (.pointer (some ⟨g3, 0, none⟩))).put (some 10) (.pointer (some ⟨g4, 0, none⟩))) _
          refine wpAnyH_ready (rs := [6]) (by kernel_rfl) (by simp) ?_
          refine AllReadyH.cons (o := { dst := none, op := .store 110 (.tmp 9) (.tmp 27), type := 0, pos := "torsor.go:117", after := #[{ on := 4, ground := .data }, { on := 1, ground := .data }, { on := 3, ground := .chain }, { on := 0, ground := .phase }, { on := 1, ground := .phase }, { on := 2, ground := .textOnly .lateStores }, { on := 3, ground := .textOnly .lateStoresUnsure }, { on := 4, ground := .phase }, { on := 5, ground := .phase }], guard := none }) rfl (fun K hK => ?_) AllReadyH.nil
          rw [if_pos (by rfl)]
          have hx : ((((((a.put (some 26) (.agg C1)).put (some 28) (.agg C2)).put (some 27) (.agg N1)).put (some 29) (.agg N2)).put (some 9) (.pointer (some ⟨g3, 0, none⟩))).put (some 10) (.pointer (some ⟨g4, 0, none⟩))).eval (.tmp 9) = .pointer (some ⟨g3, 0, none⟩) := by simp [Act.eval, Act.put, hsz]
          have hy : ((((((a.put (some 26) (.agg C1)).put (some 28) (.agg C2)).put (some 27) (.agg N1)).put (some 29) (.agg N2)).put (some 9) (.pointer (some ⟨g3, 0, none⟩))).put (some 10) (.pointer (some ⟨g4, 0, none⟩))).eval (.tmp 27) = .agg N1 := by simp [Act.eval, Act.put, hsz]
          with_reducible refine wp_store_rowN rfl 110 (.tmp 9) (.tmp 27) rfl g3 N1 hx hy 110 z6C hk4 n1 hz1 o1 ?_
          clear hx hy
          refine hK.out _ _ ⟨keepD r1 (below_setRow HB4 lg3 _), keepD r2 (below_setRow HB4 lg3 _)⟩ (fun _ => ?_)
          clear hK
          show wpAnyH _ _ _ _ _ 1 #[true, true, true, true, true, true, true, false] ((((((a.put (some 26) (.agg C1)).put (some 28) (.agg C2)).put (some 27) (.agg N1)).put (some 29) (.agg N2)).put (some 9) (.pointer (some ⟨g3, 0, none⟩))).put (some 10) (.pointer (some ⟨g4, 0, none⟩))) _
          refine wpAnyH_ready (rs := [7]) (by kernel_rfl) (by simp) ?_
          refine AllReadyH.cons (o := { dst := none, op := .store 110 (.tmp 10) (.tmp 29), type := 0, pos := "torsor.go:117", after := #[{ on := 5, ground := .data }, { on := 3, ground := .data }, { on := 6, ground := .chain }, { on := 0, ground := .phase }, { on := 1, ground := .phase }, { on := 2, ground := .phase }, { on := 3, ground := .phase }, { on := 4, ground := .phase }, { on := 5, ground := .phase }, { on := 6, ground := .phase }], guard := none }) rfl (fun K hK => ?_) AllReadyH.nil
          rw [if_pos (by rfl)]
          have hne : g3 ≠ g4 := by omega
          have hx : ((((((a.put (some 26) (.agg C1)).put (some 28) (.agg C2)).put (some 27) (.agg N1)).put (some 29) (.agg N2)).put (some 9) (.pointer (some ⟨g3, 0, none⟩))).put (some 10) (.pointer (some ⟨g4, 0, none⟩))).eval (.tmp 10) = .pointer (some ⟨g4, 0, none⟩) := by simp [Act.eval, Act.put, hsz]
          have hy : ((((((a.put (some 26) (.agg C1)).put (some 28) (.agg C2)).put (some 27) (.agg N1)).put (some 29) (.agg N2)).put (some 9) (.pointer (some ⟨g3, 0, none⟩))).put (some 10) (.pointer (some ⟨g4, 0, none⟩))).eval (.tmp 29) = .agg N2 := by simp [Act.eval, Act.put, hsz]
          with_reducible refine wp_store_rowN rfl 110 (.tmp 10) (.tmp 29) rfl g4 N2 hx hy 110 z6C ((setRow_other _ _ _ _ (Ne.symm hne)).trans hr4) n2 hz2 o2 ?_
          clear hx hy
          refine hK.out _ _ ⟨keepD r1 (below_setRow (below_setRow HB4 lg3 _) lg4 _), keepD r2 (below_setRow (below_setRow HB4 lg3 _) lg4 _)⟩ (fun _ => ?_)
          clear hK
          refine wpAnyH_done (by kernel_rfl) ?_ _
          show Q .normal ((((((a.put (some 26) (.agg C1)).put (some 28) (.agg C2)).put (some 27) (.agg N1)).put (some 29) (.agg N2)).put (some 9) (.pointer (some ⟨g3, 0, none⟩))).put (some 10) (.pointer (some ⟨g4, 0, none⟩))) _
          exact h g3 g4 _ lg3 lg4 hne ((setRow_other _ _ _ _ hne).trans (setRow_heap _ _ _ _ _ _ hk4)) (setRow_heap _ _ _ _ _ _ ((setRow_other _ _ _ _ (Ne.symm hne)).trans hr4)) (below_setRow (below_setRow HB4 lg3 _) lg4 _)
      · rw [if_pos (by rfl)]
        refine wp_run_val (u := .pointer (some ⟨v2.heap.size, 0, none⟩)) (w' := v2.alloc (.cells z6C 110)) (AL _ rfl _) ?_
        have hb5 := below_al v2 (.cells z6C 110)
        have HB5 := HB2.nx hb5
        refine hK.out _ _ ⟨keepD r1 HB5, keepD r2 HB5⟩ (fun _ => ?_)
        clear hK
        have hr5 := heap_alloc_new v2 (.cells z6C 110)
        have lg5 : w.heap.size ≤ v2.heap.size := HB2.size
        clear hb5
        generalize v2.alloc (.cells z6C 110) = v5 at *
        generalize v2.heap.size = g5 at *
        show wpAnyH _ _ _ _ _ 3 #[true, true, true, true, false, true, false, false] (((((a.put (some 26) (.agg C1)).put (some 28) (.agg C2)).put (some 27) (.agg N1)).put (some 29) (.agg N2)).put (some 10) (.pointer (some ⟨g5, 0, none⟩))) _
        refine wpAnyH_ready (rs := [4]) (by kernel_rfl) (by simp) ?_
        refine (AllReadyH.cons (o := { dst := some 9, op := .alloc 110, type := 0, pos := "torsor.go:117", after := #[], guard := none }) rfl (fun K hK => ?_) AllReadyH.nil)
        · rw [if_pos (by rfl)]
          refine wp_run_val (u := .pointer (some ⟨v5.heap.size, 0, none⟩)) (w' := v5.alloc (.cells z6C 110)) (AL _ rfl _) ?_
          have hb6 := below_al v5 (.cells z6C 110)
          have HB6 := HB5.nx hb6
          refine hK.out _ _ ⟨keepD r1 HB6, keepD r2 HB6⟩ (fun _ => ?_)
          clear hK
          have hr6 := heap_alloc_new v5 (.cells z6C 110)
          have lg6 : w.heap.size ≤ v5.heap.size := HB5.size
          have hk6 := keepD hr5 hb6
          have hl6 : g5 < v5.heap.size := (Array.getElem?_eq_some_iff.1 hr5).1
          clear hb6
          generalize v5.alloc (.cells z6C 110) = v6 at *
          generalize v5.heap.size = g6 at *
          show wpAnyH _ _ _ _ _ 2 #[true, true, true, true, true, true, false, false] ((((((a.put (some 26) (.agg C1)).put (some 28) (.agg C2)).put (some 27) (.agg N1)).put (some 29) (.agg N2)).put (some 10) (.pointer (some ⟨g5, 0, none⟩))).put (some 9) (.pointer (some ⟨g6, 0, none⟩))) _
          refine wpAnyH_ready (rs := [6]) (by kernel_rfl) (by simp) ?_
          refine AllReadyH.cons (o := { dst := none, op := .store 110 (.tmp 9) (.tmp 27), type := 0, pos := "torsor.go:117", after := #[{ on := 4, ground := .data }, { on := 1, ground := .data }, { on := 3, ground := .chain }, { on := 0, ground := .phase }, { on := 1, ground := .phase }, { on := 2, ground := .textOnly .lateStores }, { on := 3, ground := .textOnly .lateStoresUnsure }, { on := 4, ground := .phase }, { on := 5, ground := .phase }], guard := none }) rfl (fun K hK => ?_) AllReadyH.nil
          rw [if_pos (by rfl)]
          have hx : ((((((a.put (some 26) (.agg C1)).put (some 28) (.agg C2)).put (some 27) (.agg N1)).put (some 29) (.agg N2)).put (some 10) (.pointer (some ⟨g5, 0, none⟩))).put (some 9) (.pointer (some ⟨g6, 0, none⟩))).eval (.tmp 9) = .pointer (some ⟨g6, 0, none⟩) := by simp [Act.eval, Act.put, hsz]
          have hy : ((((((a.put (some 26) (.agg C1)).put (some 28) (.agg C2)).put (some 27) (.agg N1)).put (some 29) (.agg N2)).put (some 10) (.pointer (some ⟨g5, 0, none⟩))).put (some 9) (.pointer (some ⟨g6, 0, none⟩))).eval (.tmp 27) = .agg N1 := by simp [Act.eval, Act.put, hsz]
          with_reducible refine wp_store_rowN rfl 110 (.tmp 9) (.tmp 27) rfl g6 N1 hx hy 110 z6C hr6 n1 hz1 o1 ?_
          clear hx hy
          refine hK.out _ _ ⟨keepD r1 (below_setRow HB6 lg6 _), keepD r2 (below_setRow HB6 lg6 _)⟩ (fun _ => ?_)
          clear hK
          show wpAnyH _ _ _ _ _ 1 #[true, true, true, true, true, true, true, false] ((((((a.put (some 26) (.agg C1)).put (some 28) (.agg C2)).put (some 27) (.agg N1)).put (some 29) (.agg N2)).put (some 10) (.pointer (some ⟨g5, 0, none⟩))).put (some 9) (.pointer (some ⟨g6, 0, none⟩))) _
          refine wpAnyH_ready (rs := [7]) (by kernel_rfl) (by simp) ?_
          refine AllReadyH.cons (o := { dst := none, op := .store 110 (.tmp 10) (.tmp 29), type := 0, pos := "torsor.go:117", after := #[{ on := 5, ground := .data }, { on := 3, ground := .data }, { on := 6, ground := .chain }, { on := 0, ground := .phase }, { on := 1, ground := .phase }, { on := 2, ground := .phase }, { on := 3, ground := .phase }, { on := 4, ground := .phase }, { on := 5, ground := .phase }, { on := 6, ground := .phase }], guard := none }) rfl (fun K hK => ?_) AllReadyH.nil
          rw [if_pos (by rfl)]
          have hne : g6 ≠ g5 := by omega
          have hx : ((((((a.put (some 26) (.agg C1)).put (some 28) (.agg C2)).put (some 27) (.agg N1)).put (some 29) (.agg N2)).put (some 10) (.pointer (some ⟨g5, 0, none⟩))).put (some 9) (.pointer (some ⟨g6, 0, none⟩))).eval (.tmp 10) = .pointer (some ⟨g5, 0, none⟩) := by simp [Act.eval, Act.put, hsz]
          have hy : ((((((a.put (some 26) (.agg C1)).put (some 28) (.agg C2)).put (some 27) (.agg N1)).put (some 29) (.agg N2)).put (some 10) (.pointer (some ⟨g5, 0, none⟩))).put (some 9) (.pointer (some ⟨g6, 0, none⟩))).eval (.tmp 29) = .agg N2 := by simp [Act.eval, Act.put, hsz]
          with_reducible refine wp_store_rowN rfl 110 (.tmp 10) (.tmp 29) rfl g5 N2 hx hy 110 z6C ((setRow_other _ _ _ _ (Ne.symm hne)).trans hk6) n2 hz2 o2 ?_
          clear hx hy
          refine hK.out _ _ ⟨keepD r1 (below_setRow (below_setRow HB6 lg6 _) lg5 _), keepD r2 (below_setRow (below_setRow HB6 lg6 _) lg5 _)⟩ (fun _ => ?_)
          clear hK
          refine wpAnyH_done (by kernel_rfl) ?_ _
          show Q .normal ((((((a.put (some 26) (.agg C1)).put (some 28) (.agg C2)).put (some 27) (.agg N1)).put (some 29) (.agg N2)).put (some 10) (.pointer (some ⟨g5, 0, none⟩))).put (some 9) (.pointer (some ⟨g6, 0, none⟩))) _
          rw [Act.put_comm ((((a.put (some 26) (.agg C1)).put (some 28) (.agg C2)).put (some 27) (.agg N1)).put (some 29) (.agg N2)) (.pointer (some ⟨g5, 0, none⟩)) (.pointer (some ⟨g6, 0, none⟩)) (fun d e1 e2 => by cases e1; cases e2)]
          exact h g6 g5 _ lg6 lg5 hne ((setRow_other _ _ _ _ hne).trans (setRow_heap _ _ _ _ _ _ hr6)) (setRow_heap _ _ _ _ _ _ ((setRow_other _ _ _ _ (Ne.symm hne)).trans hk6)) (below_setRow (below_setRow HB6 lg6 _) lg5 _)
    · rw [if_pos (by rfl)]
      refine wp_run_val (u := .pointer (some ⟨v1.heap.size, 0, none⟩)) (w' := v1.alloc (.cells z6C 110)) (AL _ rfl _) ?_
      have hb7 := below_al v1 (.cells z6C 110)
      have HB7 := HB1.nx hb7
      refine hK.out _ _ ⟨keepD r1 HB7, keepD r2 HB7⟩ (fun _ => ?_)
      clear hK
      have hr7 := heap_alloc_new v1 (.cells z6C 110)
      have lg7 : w.heap.size ≤ v1.heap.size := HB1.size
      clear hb7
      generalize v1.alloc (.cells z6C 110) = v7 at *
      generalize v1.heap.size = g7 at *
      show wpAnyH _ _ _ _ _ 4 #[true, true, true, false, true, false, false, false] ((((a.put (some 26) (.agg C1)).put (some 28) (.agg C2)).put (some 27) (.agg N1)).put (some 9) (.pointer (some ⟨g7, 0, none⟩))) _
      refine wpAnyH_ready (rs := [3, 5]) (by kernel_rfl) (by simp) ?_
      refine (AllReadyH.cons (o := { dst := some 29, op := .call { callee := .value (.func 47), args := #[.tmp 28], argTypes := #[38] }, type := 110, pos := "torsor.go:117", after := #[{ on := 2, ground := .data }, { on := 1, ground := .chain }], guard := none }) rfl (fun K hK => ?_) (AllReadyH.cons (o := { dst := some 10, op := .alloc 110, type := 0, pos := "torsor.go:117", after := #[], guard := none }) rfl (fun K hK => ?_) AllReadyH.nil))
      · rw [if_pos (by rfl)]
        refine wp_run_call (f := 47) (args := #[.agg C2]) (by simp [go_sem, Act.eval, Act.put, hsz]) ((c2 v7).mono ?_)
        rintro e v8 ⟨rfl, hb8⟩
        refine ⟨_, rfl, ?_⟩
        have HB8 := HB7.nx hb8
        refine hK.out _ _ ⟨keepD r1 HB8, keepD r2 HB8⟩ (fun _ => ?_)
        clear hK
        have ha8 := keepD hr7 hb8
        show wpAnyH _ _ _ _ _ 3 #[true, true, true, true, true, false, false, false] (((((a.put (some 26) (.agg C1)).put (some 28) (.agg C2)).put (some 27) (.agg N1)).put (some 9) (.pointer (some ⟨g7, 0, none⟩))).put (some 29) (.agg N2)) _
        refine wpAnyH_ready (rs := [5]) (by kernel_rfl) (by simp) ?_
        refine (AllReadyH.cons (o := { dst := some 10, op := .alloc 110, type := 0, pos := "torsor.go:117", after := #[], guard := none }) rfl (fun K hK => ?_) AllReadyH.nil)
        · rw [if_pos (by rfl)]
          refine wp_run_val (u := .pointer (some ⟨v8.heap.size, 0, none⟩)) (w' := v8.alloc (.cells z6C 110)) (AL _ rfl _) ?_
          have hb9 := below_al v8 (.cells z6C 110)
          have HB9 := HB8.nx hb9
          refine hK.out _ _ ⟨keepD r1 HB9, keepD r2 HB9⟩ (fun _ => ?_)
          clear hK
          have hr9 := heap_alloc_new v8 (.cells z6C 110)
          have lg9 : w.heap.size ≤ v8.heap.size := HB8.size
          have hk9 := keepD ha8 hb9
          have hl9 : g7 < v8.heap.size := (Array.getElem?_eq_some_iff.1 ha8).1
          clear hb9
          generalize v8.alloc (.cells z6C 110) = v9 at *
          generalize v8.heap.size = g9 at *
          show wpAnyH _ _ _ _ _ 2 #[true, true, true, true, true, true, false, false] ((((((a.put (some 26) (.agg C1)).put (some 28) (.agg C2)).put (some 27) (.agg N1)).put (some 9) (.pointer (some ⟨g7, 0, none⟩))).put (some 29) (.agg N2)).put (some 10) (.pointer (some ⟨g9, 0, none⟩))) _
          refine wpAnyH_ready (rs := [6]) (by kernel_rfl) (by simp) ?_
          refine AllReadyH.cons (o := { dst := none, op := .store 110 (.tmp 9) (.tmp 27), type := 0, pos := "torsor.go:117", after := #[{ on := 4, ground := .data }, { on := 1, ground := .data }, { on := 3, ground := .chain }, { on := 0, ground := .phase }, { on := 1, ground := .phase }, { on := 2, ground := .textOnly .lateStores }, { on := 3, ground := .textOnly .lateStoresUnsure }, { on := 4, ground := .phase }, { on := 5, ground := .phase }], guard := none }) rfl (fun K hK => ?_) AllReadyH.nil
          rw [if_pos (by rfl)]
          have hx : ((((((a.put (some 26) (.agg C1)).put (some 28) (.agg C2)).put (some 27) (.agg N1)).put (some 9) (.pointer (some ⟨g7, 0, none⟩))).put (some 29) (.agg N2)).put (some 10) (.pointer (some ⟨g9, 0, none⟩))).eval (.tmp 9) = .pointer (some ⟨g7, 0, none⟩) := by simp [Act.eval, Act.put, hsz]
          have hy : ((((((a.put (some 26) (.agg C1)).put (some 28) (.agg C2)).put (some 27) (.agg N1)).put (some 9) (.pointer (some ⟨g7, 0, none⟩))).put (some 29) (.agg N2)).put (some 10) (.pointer (some ⟨g9, 0, none⟩))).eval (.tmp 27) = .agg N1 := by simp [Act.eval, Act.put, hsz]
          with_reducible refine wp_store_rowN rfl 110 (.tmp 9) (.tmp 27) rfl g7 N1 hx hy 110 z6C hk9 n1 hz1 o1 ?_
          clear hx hy
          refine hK.out _ _ ⟨keepD r1 (below_setRow HB9 lg7 _), keepD r2 (below_setRow HB9 lg7 _)⟩ (fun _ => ?_)
          clear hK
          show wpAnyH _ _ _ _ _ 1 #[true, true, true, true, true, true, true, false] ((((((a.put (some 26) (.agg C1)).put (some 28) (.agg C2)).put (some 27) (.agg N1)).put (some 9) (.pointer (some ⟨g7, 0, none⟩))).put (some 29) (.agg N2)).put (some 10) (.pointer (some ⟨g9, 0, none⟩))) _
          refine wpAnyH_ready (rs := [7]) (by kernel_rfl) (by simp) ?_
          refine AllReadyH.cons (o := { dst := none, op := .store 110 (.tmp 10) (.tmp 29), type := 0, pos := "torsor.go:117", after := #[{ on := 5, ground := .data }, { on := 3, ground := .data }, { on := 6, ground := .chain }, { on := 0, ground := .phase }, { on := 1, ground := .phase }, { on := 2, ground := .phase }, { on := 3, ground := .phase }, { on := 4, ground := .phase }, { on := 5, ground := .phase }, { on := 6, ground := .phase }], guard := none }) rfl (fun K hK => ?_) AllReadyH.nil
          rw [if_pos (by rfl)]
          have hne : g7 ≠ g9 := by omega
          have hx : ((((((a.put (some 26) (.agg C1)).put (some 28) (.agg C2)).put (some 27) (.agg N1)).put (some 9) (.pointer (some ⟨g7, 0, none⟩))).put (some 29) (.agg N2)).put (some 10) (.pointer (some ⟨g9, 0, none⟩))).eval (.tmp 10) = .pointer (some ⟨g9, 0, none⟩) := by simp [Act.eval, Act.put, hsz]
          have hy : ((((((a.put (some 26) (.agg C1)).put (some 28) (.agg C2)).put (some 27) (.agg N1)).put (some 9) (.pointer (some ⟨g7, 0, none⟩))).put (some 29) (.agg N2)).put (some 10) (.pointer (some ⟨g9, 0, none⟩))).eval (.tmp 29) = .agg N2 := by simp [Act.eval, Act.put, hsz]
          with_reducible refine wp_store_rowN rfl 110 (.tmp 10) (.tmp 29) rfl g9 N2 hx hy 110 z6C ((setRow_other _ _ _ _ (Ne.symm hne)).trans hr9) n2 hz2 o2 ?_
          clear hx hy
          refine hK.out _ _ ⟨keepD r1 (below_setRow (below_setRow HB9 lg7 _) lg9 _), keepD r2 (below_setRow (below_setRow HB9 lg7 _) lg9 _)⟩ (fun _ => ?_)
          clear hK
          refine wpAnyH_done (by kernel_rfl) ?_ _
          show Q .normal ((((((a.put (some 26) (.agg C1)).put (some 28) (.agg C2)).put (some 27) (.agg N1)).put (some 9) (.pointer (some ⟨g7, 0, none⟩))).put (some 29) (.agg N2)).put (some 10) (.pointer (some ⟨g9, 0, none⟩))) _
          rw [Act.put_comm (((a.put (some 26) (.agg C1)).put (some 28) (.agg C2)).put (some 27) (.agg N1)) (.pointer (some ⟨g7, 0, none⟩)) (.agg N2) (fun d e1 e2 => by cases e1; cases e2)]
          exact h g7 g9 _ lg7 lg9 hne ((setRow_other _ _ _ _ hne).trans (setRow_heap _ _ _ _ _ _ hk9)) (setRow_heap _ _ _ _ _ _ ((setRow_other _ _ _ _ (Ne.symm hne)).trans hr9)) (below_setRow (below_setRow HB9 lg7 _) lg9 _)
      · rw [if_pos (by rfl)]
        refine wp_run_val (u := .pointer (some ⟨v7.heap.size, 0, none⟩)) (w' := v7.alloc (.cells z6C 110)) (AL _ rfl _) ?_
        have hb10 := below_al v7 (.cells z6C 110)
        have HB10 := HB7.nx hb10
        refine hK.out _ _ ⟨keepD r1 HB10, keepD r2 HB10⟩ (fun _ => ?_)
        clear hK
        have hr10 := heap_alloc_new v7 (.cells z6C 110)
        have lg10 : w.heap.size ≤ v7.heap.size := HB7.size
        have hk10 := keepD hr7 hb10
        have hl10 : g7 < v7.heap.size := (Array.getElem?_eq_some_iff.1 hr7).1
        clear hb10
        generalize v7.alloc (.cells z6C 110) = v10 at *
        generalize v7.heap.size = g10 at *
        show wpAnyH _ _ _ _ _ 3 #[true, true, true, false, true, true, false, false] (((((a.put (some 26) (.agg C1)).put (some 28) (.agg C2)).put (some 27) (.agg N1)).put (some 9) (.pointer (some ⟨g7, 0, none⟩))).put (some 10) (.pointer (some ⟨g10, 0, none⟩))) _
        refine wpAnyH_ready (rs := [3]) (by kernel_rfl) (by simp) ?_
        refine (AllReadyH.cons (o := { dst := some 29, op := .call { callee := .value (.func 47), args := #[.tmp 28], argTypes := #[38] }, type := 110, pos := "torsor.go:117", after := #[{ on := 2, ground := .data }, { on := 1, ground := .chain }], guard := none }) rfl (fun K hK => ?_) AllReadyH.nil)
        · rw [if_pos (by rfl)]
          refine wp_run_call (f := 47) (args := #[.agg C2]) (by simp [go_sem, Act.eval, Act.put, hsz]) ((c2 v10).mono ?_)
          rintro e v11 ⟨rfl, hb11⟩
          refine ⟨_, rfl, ?_⟩
          have HB11 := HB10.nx hb11
          refine hK.out _ _ ⟨keepD r1 HB11, keepD r2 HB11⟩ (fun _ => ?_)
          clear hK
          have ha11 := keepD hk10 hb11
          have hB11 := keepD hr10 hb11
          show wpAnyH _ _ _ _ _ 2 #[true, true, true, true, true, true, false, false] ((((((a.put (some 26) (.agg C1)).put (some 28) (.agg C2)).put (some 27) (.agg N1)).put (some 9) (.pointer (some ⟨g7, 0, none⟩))).put (some 10) (.pointer (some ⟨g10, 0, none⟩))).put (some 29) (.agg N2)) _
          refine wpAnyH_ready (rs := [6]) (by kernel_rfl) (by simp) ?_
          refine AllReadyH.cons (o := { dst := none, op := .store 110 (.tmp 9) (.tmp 27), type := 0, pos := "torsor.go:117", after := #[{ on := 4, ground := .data }, { on := 1, ground := .data }, { on := 3, ground := .chain }, { on := 0, ground := .phase }, { on := 1, ground := .phase }, { on := 2, ground := .textOnly .lateStores }, { on := 3, ground := .textOnly .lateStoresUnsure }, { on := 4, ground := .phase }, { on := 5, ground := .phase }], guard := none }) rfl (fun K hK => ?_) AllReadyH.nil
          rw [if_pos (by rfl)]
          have hx : ((((((a.put (some 26) (.agg C1)).put (some 28) (.agg C2)).put (some 27) (.agg N1)).put (some 9) (.pointer (some ⟨g7, 0, none⟩))).put (some 10) (.pointer (some ⟨g10, 0, none⟩))).put (some 29) (.agg N2)).eval (.tmp 9) = .pointer (some ⟨g7, 0, none⟩) := by simp [Act.eval, Act.put, hsz]
          have hy : ((((((a.put (some 26) (.agg C1)).put (some 28) (.agg C2)).put (some 27) (.agg N1)).put (some 9) (.pointer (some ⟨g7, 0, none⟩))).put (some 10) (.pointer (some ⟨g10, 0, none⟩))).put (some 29) (.agg N2)).eval (.tmp 27) = .agg N1 := by simp [Act.eval, Act.put, hsz]
          with_reducible refine wp_store_rowN rfl 110 (.tmp 9) (.tmp 27) rfl g7 N1 hx hy 110 z6C ha11 n1 hz1 o1 ?_
          clear hx hy
          refine hK.out _ _ ⟨keepD r1 (below_setRow HB11 lg7 _), keepD r2 (below_setRow HB11 lg7 _)⟩ (fun _ => ?_)
          clear hK
          show wpAnyH _ _ _ _ _ 1 #[true, true, true, true, true, true, true, false] ((((((a.put (some 26) (.agg C1)).put (some 28) (.agg C2)).put (some 27) (.agg N1)).put (some 9) (.pointer (some ⟨g7, 0, none⟩))).put (some 10) (.pointer (some ⟨g10, 0, none⟩))).put (some 29) (.agg N2)) _
          refine wpAnyH_ready (rs := [7]) (by kernel_rfl) (by simp) ?_
          refine AllReadyH.cons (o := { dst := none, op := .store 110 (.tmp 10) (.tmp 29), type := 0, pos := "torsor.go:117", after := #[{ on := 5, ground := .data }, { on := 3, ground := .data }, { on := 6, ground := .chain }, { on := 0, ground := .phase }, { on := 1, ground := .phase }, { on := 2, ground := .phase }, { on := 3, ground := .phase }, { on := 4, ground := .phase }, { on := 5, ground := .phase }, { on := 6, ground := .phase }], guard := none }) rfl (fun K hK => ?_) AllReadyH.nil
          rw [if_pos (by rfl)]
          have hne : g7 ≠ g10 := by omega
          have hx : ((((((a.put (some 26) (.agg C1)).put (some 28) (.agg C2)).put (some 27) (.agg N1)).put (some 9) (.pointer (some ⟨g7, 0, none⟩))).put (some 10) (.pointer (some ⟨g10, 0, none⟩))).put (some 29) (.agg N2)).eval (.tmp 10) = .pointer (some ⟨g10, 0, none⟩) := by simp [Act.eval, Act.put, hsz]
          have hy : ((((((a.put (some 26) (.agg C1)).put (some 28) (.agg C2)).put (some 27) (.agg N1)).put (some 9) (.pointer (some ⟨g7, 0, none⟩))).put (some 10) (.pointer (some ⟨g10, 0, none⟩))).put (some 29) (.agg N2)).eval (.tmp 29) = .agg N2 := by simp [Act.eval, Act.put, hsz]
          with_reducible refine wp_store_rowN rfl 110 (.tmp 10) (.tmp 29) rfl g10 N2 hx hy 110 z6C ((setRow_other _ _ _ _ (Ne.symm hne)).trans hB11) n2 hz2 o2 ?_
          clear hx hy
          refine hK.out _ _ ⟨keepD r1 (below_setRow (below_setRow HB11 lg7 _) lg10 _), keepD r2 (below_setRow (below_setRow HB11 lg7 _) lg10 _)⟩ (fun _ => ?_)
          clear hK
          refine wpAnyH_done (by kernel_rfl) ?_ _
          show Q .normal ((((((a.put (some 26) (.agg C1)).put (some 28) (.agg C2)).put (some 27) (.agg N1)).put (some 9) (.pointer (some ⟨g7, 0, none⟩))).put (some 10) (.pointer (some ⟨g10, 0, none⟩))).put (some 29) (.agg N2)) _
          rw [Act.put_comm ((((a.put (some 26) (.agg C1)).put (some 28) (.agg C2)).put (some 27) (.agg N1)).put (some 9) (.pointer (some ⟨g7, 0, none⟩))) (.pointer (some ⟨g10, 0, none⟩)) (.agg N2) (fun d e1 e2 => by cases e1; cases e2)]
          rw [Act.put_comm (((a.put (some 26) (.agg C1)).put (some 28) (.agg C2)).put (some 27) (.agg N1)) (.pointer (some ⟨g7, 0, none⟩)) (.agg N2) (fun d e1 e2 => by cases e1; cases e2)]
          exact h g7 g10 _ lg7 lg10 hne ((setRow_other _ _ _ _ hne).trans (setRow_heap _ _ _ _ _ _ ha11)) (setRow_heap _ _ _ _ _ _ ((setRow_other _ _ _ _ (Ne.symm hne)).trans hB11)) (below_setRow (below_setRow HB11 lg7 _) lg10 _)
    · rw [if_pos (by rfl)]
      refine wp_run_val (u := .pointer (some ⟨v1.heap.size, 0, none⟩)) (w' := v1.alloc (.cells z6C 110)) (AL _ rfl _) ?_
      have hb12 := below_al v1 (.cells z6C 110)
      have HB12 := HB1.nx hb12
      refine hK.out _ _ ⟨keepD r1 HB12, keepD r2 HB12⟩ (fun _ => ?_)
      clear hK
      have hr12 := heap_alloc_new v1 (.cells z6C 110)
      have lg12 : w.heap.size ≤ v1.heap.size := HB1.size
      clear hb12
      generalize v1.alloc (.cells z6C 110) = v12 at *
      generalize v1.heap.size = g12 at *
      show wpAnyH _ _ _ _ _ 4 #[true, true, true, false, false, true, false, false] ((((a.put (some 26) (.agg C1)).put (some 28) (.agg C2)).put (some 27) (.agg N1)).put (some 10) (.pointer (some ⟨g12, 0, none⟩))) _
      refine wpAnyH_ready (rs := [3, 4]) (by kernel_rfl) (by simp) ?_
      refine (AllReadyH.cons (o := { dst := some 29, op := .call { callee := .value (.func 47), args := #[.tmp 28], argTypes := #[38] }, type := 110, pos := "torsor.go:117", after := #[{ on := 2, ground := .data }, { on := 1, ground := .chain }], guard := none }) rfl (fun K hK => ?_) (AllReadyH.cons (o := { dst := some 9, op := .alloc 110, type := 0, pos := "torsor.go:117", after := #[], guard := none }) rfl (fun K hK => ?_) AllReadyH.nil))
      · rw [if_pos (by rfl)]
        refine wp_run_call (f := 47) (args := #[.agg C2]) (by simp [go_sem, Act.eval, Act.put, hsz]) ((c2 v12).mono ?_)
        rintro e v13 ⟨rfl, hb13⟩
        refine ⟨_, rfl, ?_⟩
        have HB13 := HB12.nx hb13
        refine hK.out _ _ ⟨keepD r1 HB13, keepD r2 HB13⟩ (fun _ => ?_)
        clear hK
        have hB13 := keepD hr12 hb13
        show wpAnyH _ _ _ _ _ 3 #[true, true, true, true, false, true, false, false] (((((a.put (some 26) (.agg C1)).put (some 28) (.agg C2)).put (some 27) (.agg N1)).put (some 10) (.pointer (some ⟨g12, 0, none⟩))).put (some 29) (.agg N2)) _
        refine wpAnyH_ready (rs := [4]) (by kernel_rfl) (by simp) ?_
        refine (AllReadyH.cons (o := { dst := some 9, op := .alloc 110, type := 0, pos := "torsor.go:117", after := #[], guard := none }) rfl (fun K hK => ?_) AllReadyH.nil)
        · rw [if_pos (by rfl)]
          refine wp_run_val (u := .pointer (some ⟨v13.heap.size, 0, none⟩)) (w' := v13.alloc (.cells z6C 110)) (AL _ rfl _) ?_
          have hb14 := below_al v13 (.cells z6C 110)
          have HB14 := HB13.nx hb14
          refine hK.out _ _ ⟨keepD r1 HB14, keepD r2 HB14⟩ (fun _ => ?_)
          clear hK
          have hr14 := heap_alloc_new v13 (.cells z6C 110)
          have lg14 : w.heap.size ≤ v13.heap.size := HB13.size
          have hk14 := keepD hB13 hb14
          have hl14 : g12 < v13.heap.size := (Array.getElem?_eq_some_iff.1 hB13).1
          clear hb14
          generalize v13.alloc (.cells z6C 110) = v14 at *
          generalize v13.heap.size = g14 at *
          show wpAnyH _ _ _ _ _ 2 #[true, true, true, true, true, true, false, false] ((((((a.put (some 26) (.agg C1)).put (some 28) (.agg C2)).put (some 27) (.agg N1)).put (some 10) (.pointer (some ⟨g12, 0, none⟩))).put (some 29) (.agg N2)).put (some 9) (.pointer (some ⟨g14, 0, none⟩))) _
          refine wpAnyH_ready (rs := [6]) (by kernel_rfl) (by simp) ?_
          refine AllReadyH.cons (o := { dst := none, op := .store 110 (.tmp 9) (.tmp 27), type := 0, pos := "torsor.go:117", after := #[{ on := 4, ground := .data }, { on := 1, ground := .data }, { on := 3, ground := .chain }, { on := 0, ground := .phase }, { on := 1, ground := .phase }, { on := 2, ground := .textOnly .lateStores }, { on := 3, ground := .textOnly .lateStoresUnsure }, { on := 4, ground := .phase }, { on := 5, ground := .phase }], guard := none }) rfl (fun K hK => ?_) AllReadyH.nil
          rw [if_pos (by rfl)]
          have hx : ((((((a.put (some 26) (.agg C1)).put (some 28) (.agg C2)).put (some 27) (.agg N1)).put (some 10) (.pointer (some ⟨g12, 0, none⟩))).put (some 29) (.agg N2)).put (some 9) (.pointer (some ⟨g14, 0, none⟩))).eval (.tmp 9) = .pointer (some ⟨g14, 0, none⟩) := by simp [Act.eval, Act.put, hsz]
          have hy : ((((((a.put (some 26) (.agg C1)).put (some 28) (.agg C2)).put (some 27) (.agg N1)).put (some 10) (.pointer (some ⟨g12, 0, none⟩))).put (some 29) (.agg N2)).put (some 9) (.pointer (some ⟨g14, 0, none⟩))).eval (.tmp 27) = .agg N1 := by simp [Act.eval, Act.put, hsz]
          with_reducible refine wp_store_rowN rfl 110 (.tmp 9) (.tmp 27) rfl g14 N1 hx hy 110 z6C hr14 n1 hz1 o1 ?_
          clear hx hy
          refine hK.out _ _ ⟨keepD r1 (below_setRow HB14 lg14 _), keepD r2 (below_setRow HB14 lg14 _)⟩ (fun _ => ?_)
          clear hK
          show wpAnyH _ _ _ _ _ 1 #[true, true, true, true, true, true, true, false] ((((((a.put (some 26) (.agg C1)).put (some 28) (.agg C2)).put (some 27) (.agg N1)).put (some 10) (.pointer (some ⟨g12, 0, none⟩))).put (some 29) (.agg N2)).put (some 9) (.pointer (some ⟨g14, 0, none⟩))) _
          refine wpAnyH_ready (rs := [7]) (by kernel_rfl) (by simp) ?_
          refine AllReadyH.cons (o := { dst := none, op := .store 110 (.tmp 10) (.tmp 29), type := 0, pos := "torsor.go:117", after := #[{ on := 5, ground := .data }, { on := 3, ground := .data }, { on := 6, ground := .chain }, { on := 0, ground := .phase }, { on := 1, ground := .phase }, { on := 2, ground := .phase }, { on := 3, ground := .phase }, { on := 4, ground := .phase }, { on := 5, ground := .phase }, { on := 6, ground := .phase }], guard := none }) rfl (fun K hK => ?_) AllReadyH.nil
          rw [if_pos (by rfl)]
          have hne : g14 ≠ g12 := by omega
          have hx : ((((((a.put (some 26) (.agg C1)).put (some 28) (.agg C2)).put (some 27) (.agg N1)).put (some 10) (.pointer (some ⟨g12, 0, none⟩))).put (some 29) (.agg N2)).put (some 9) (.pointer (some ⟨g14, 0, none⟩))).eval (.tmp 10) = .pointer (some ⟨g12, 0, none⟩) := by simp [Act.eval, Act.put, hsz]
          have hy : ((((((a.put (some 26) (.agg C1)).put (some 28) (.agg C2)).put (some 27) (.agg N1)).put (some 10) (.pointer (some ⟨g12, 0, none⟩))).put (some 29) (.agg N2)).put (some 9) (.pointer (some ⟨g14, 0, none⟩))).eval (.tmp 29) = .agg N2 := by simp [Act.eval, Act.put, hsz]
          with_reducible refine wp_store_rowN rfl 110 (.tmp 10) (.tmp 29) rfl g12 N2 hx hy 110 z6C ((setRow_other _ _ _ _ (Ne.symm hne)).trans hk14) n2 hz2 o2 ?_
          clear hx hy
          refine hK.out _ _ ⟨keepD r1 (below_setRow (below_setRow HB14 lg14 _) lg12 _), keepD r2 (below_setRow (below_setRow HB14 lg14 _) lg12 _)⟩ (fun _ => ?_)
          clear hK
          refine wpAnyH_done (by kernel_rfl) ?_ _
          show Q .normal ((((((a.put (some 26) (.agg C1)).put (some 28) (.agg C2)).put (some 27) (.agg N1)).put (some 10) (.pointer (some ⟨g12, 0, none⟩))).put (some 29) (.agg N2)).put (some 9) (.pointer (some ⟨g14, 0, none⟩))) _
          rw [Act.put_comm (((a.put (some 26) (.agg C1)).put (some 28) (.agg C2)).put (some 27) (.agg N1)) (.pointer (some ⟨g12, 0, none⟩)) (.agg N2) (fun d e1 e2 => by cases e1; cases e2)]
          rw [Act.put_comm ((((a.put (some 26) (.agg C1)).put (some 28) (.agg C2)).put (some 27) (.agg N1)).put (some 29) (.agg N2)) (.pointer (some ⟨g12, 0, none⟩)) (.pointer (some ⟨g14, 0, none⟩)) (fun d e1 e2 => by cases e1; cases e2)]
          exact h g14 g12 _ lg14 lg12 hne ((setRow_other _ _ _ _ hne).trans (setRow_heap _ _ _ _ _ _ hr14)) (setRow_heap _ _ _ _ _ _ ((setRow_other _ _ _ _ (Ne.symm hne)).trans hk14)) (below_setRow (below_setRow HB14 lg14 _) lg12 _)
      · rw [if_pos (by rfl)]
        refine wp_run_val (u := .pointer (some ⟨v12.heap.size, 0, none⟩)) (w' := v12.alloc (.cells z6C 110)) (AL _ rfl _) ?_
        have hb15 := below_al v12 (.cells z6C 110)
        have HB15 := HB12.nx hb15
        refine hK.out _ _ ⟨keepD r1 HB15, keepD r2 HB15⟩ (fun _ => ?_)
        clear hK
        have hr15 := heap_alloc_new v12 (.cells z6C 110)
        have lg15 : w.heap.size ≤ v12.heap.size := HB12.size
        have hk15 := keepD hr12 hb15
        have hl15 : g12 < v12.heap.size := (Array.getElem?_eq_some_iff.1 hr12).1
        clear hb15
        generalize v12.alloc (.cells z6C 110) = v15 at *
        generalize v12.heap.size = g15 at *
        show wpAnyH _ _ _ _ _ 3 #[true, true, true, false, true, true, false, false] (((((a.put (some 26) (.agg C1)).put (some 28) (.agg C2)).put (some 27) (.agg N1)).put (some 10) (.pointer (some ⟨g12, 0, none⟩))).put (some 9) (.pointer (some ⟨g15, 0, none⟩))) _
        refine wpAnyH_ready (rs := [3]) (by kernel_rfl) (by simp) ?_
        refine (AllReadyH.cons (o := { dst := some 29, op := .call { callee := .value (.func 47), args := #[.tmp 28], argTypes := #[38] }, type := 110, pos := "torsor.go:117", after := #[{ on := 2, ground := .data }, { on := 1, ground := .chain }], guard := none }) rfl (fun K hK => ?_) AllReadyH.nil)
        · rw [if_pos (by rfl)]
          refine wp_run_call (f := 47) (args := #[.agg C2]) (by simp [go_sem, Act.eval, Act.put, hsz]) ((c2 v15).mono ?_)
          rintro e v16 ⟨rfl, hb16⟩
          refine ⟨_, rfl, ?_⟩
          have HB16 := HB15.nx hb16
          refine hK.out _ _ ⟨keepD r1 HB16, keepD r2 HB16⟩ (fun _ => ?_)
          clear hK
          have ha16 := keepD hr15 hb16
          have hB16 := keepD hk15 hb16
          show wpAnyH _ _ _ _ _ 2 #[true, true, true, true, true, true, false, false] ((((((a.put (some 26) (.agg C1)).put (some 28) (.agg C2)).put (some 27) (.agg N1)).put (some 10) (.pointer (some ⟨g12, 0, none⟩))).put (some 9) (.pointer (some ⟨g15, 0, none⟩))).put (some 29) (.agg N2)) _
          refine wpAnyH_ready (rs := [6]) (by kernel_rfl) (by simp) ?_
          refine AllReadyH.cons (o := { dst := none, op := .store 110 (.tmp 9) (.tmp 27), type := 0, pos := "torsor.go:117", after := #[{ on := 4, ground := .data }, { on := 1, ground := .data }, { on := 3, ground := .chain }, { on := 0, ground := .phase }, { on := 1, ground := .phase }, { on := 2, ground := .textOnly .lateStores }, { on := 3, ground := .textOnly .lateStoresUnsure }, { on := 4, ground := .phase }, { on := 5, ground := .phase }], guard := none }) rfl (fun K hK => ?_) AllReadyH.nil
          rw [if_pos (by rfl)]
          have hx : ((((((a.put (some 26) (.agg C1)).put (some 28) (.agg C2)).put (some 27) (.agg N1)).put (some 10) (.pointer (some ⟨g12, 0, none⟩))).put (some 9) (.pointer (some ⟨g15, 0, none⟩))).put (some 29) (.agg N2)).eval (.tmp 9) = .pointer (some ⟨g15, 0, none⟩) := by simp [Act.eval, Act.put, hsz]
          have hy : ((((((a.put (some 26) (.agg C1)).put (some 28) (.agg C2)).put (some 27) (.agg N1)).put (some 10) (.pointer (some ⟨g12, 0, none⟩))).put (some 9) (.pointer (some ⟨g15, 0, none⟩))).put (some 29) (.agg N2)).eval (.tmp 27) = .agg N1 := by simp [Act.eval, Act.put, hsz]
          with_reducible refine wp_store_rowN rfl 110 (.tmp 9) (.tmp 27) rfl g15 N1 hx hy 110 z6C ha16 n1 hz1 o1 ?_
          clear hx hy
          refine hK.out _ _ ⟨keepD r1 (below_setRow HB16 lg15 _), keepD r2 (below_setRow HB16 lg15 _)⟩ (fun _ => ?_)
          clear hK
          show wpAnyH _ _ _ _ _ 1 #[true, true, true, true, true, true, true, false] ((((((a.put (some 26) (.agg C1)).put (some 28) (.agg C2)).put (some 27) (.agg N1)).put (some 10) (.pointer (some ⟨g12, 0, none⟩))).put (some 9) (.pointer (some ⟨g15, 0, none⟩))).put (some 29) (.agg N2)) _
          refine wpAnyH_ready (rs := [7]) (by kernel_rfl) (by simp) ?_
          refine AllReadyH.cons (o := { dst := none, op := .store 110 (.tmp 10) (.tmp 29), type := 0, pos := "torsor.go:117", after := #[{ on := 5, ground := .data }, { on := 3, ground := .data }, { on := 6, ground := .chain }, { on := 0, ground := .phase }, { on := 1, ground := .phase }, { on := 2, ground := .phase }, { on := 3, ground := .phase }, { on := 4, ground := .phase }, { on := 5, ground := .phase }, { on := 6, ground := .phase }], guard := none }) rfl (fun K hK => ?_) AllReadyH.nil
          rw [if_pos (by rfl)]
          have hne : g15 ≠ g12 := by omega
          have hx : ((((((a.put (some 26) (.agg C1)).put (some 28) (.agg C2)).put (some 27) (.agg N1)).put (some 10) (.pointer (some ⟨g12, 0, none⟩))).put (some 9) (.pointer (some ⟨g15, 0, none⟩))).put (some 29) (.agg N2)).eval (.tmp 10) = .pointer (some ⟨g12, 0, none⟩) := by simp [Act.eval, Act.put, hsz]
          have hy : ((((((a.put (some 26) (.agg C1)).put (some 28) (.agg C2)).put (some 27) (.agg N1)).put (some 10) (.pointer (some ⟨g12, 0, none⟩))).put (some 9) (.pointer (some ⟨g15, 0, none⟩))).put (some 29) (.agg N2)).eval (.tmp 29) = .agg N2 := by simp [Act.eval, Act.put, hsz]
          with_reducible refine wp_store_rowN rfl 110 (.tmp 10) (.tmp 29) rfl g12 N2 hx hy 110 z6C ((setRow_other _ _ _ _ (Ne.symm hne)).trans hB16) n2 hz2 o2 ?_
          clear hx hy
          refine hK.out _ _ ⟨keepD r1 (below_setRow (below_setRow HB16 lg15 _) lg12 _), keepD r2 (below_setRow (below_setRow HB16 lg15 _) lg12 _)⟩ (fun _ => ?_)
          clear hK
          refine wpAnyH_done (by kernel_rfl) ?_ _
          show Q .normal ((((((a.put (some 26) (.agg C1)).put (some 28) (.agg C2)).put (some 27) (.agg N1)).put (some 10) (.pointer (some ⟨g12, 0, none⟩))).put (some 9) (.pointer (some ⟨g15, 0, none⟩))).put (some 29) (.agg N2)) _
          rw [Act.put_comm (((a.put (some 26) (.agg C1)).put (some 28) (.agg C2)).put (some 27) (.agg N1)) (.pointer (some ⟨g12, 0, none⟩)) (.pointer (some ⟨g15, 0, none⟩)) (fun d e1 e2 => by cases e1; cases e2)]
          rw [Act.put_comm ((((a.put (some 26) (.agg C1)).put (some 28) (.agg C2)).put (some 27) (.agg N1)).put (some 9) (.pointer (some ⟨g15, 0, none⟩))) (.pointer (some ⟨g12, 0, none⟩)) (.agg N2) (fun d e1 e2 => by cases e1; cases e2)]
          rw [Act.put_comm (((a.put (some 26) (.agg C1)).put (some 28) (.agg C2)).put (some 27) (.agg N1)) (.pointer (some ⟨g15, 0, none⟩)) (.agg N2) (fun d e1 e2 => by cases e1; cases e2)]
          exact h g15 g12 _ lg15 lg12 hne ((setRow_other _ _ _ _ hne).trans (setRow_heap _ _ _ _ _ _ ha16)) (setRow_heap _ _ _ _ _ _ ((setRow_other _ _ _ _ (Ne.symm hne)).trans hB16)) (below_setRow (below_setRow HB16 lg15 _) lg12 _)
  · rw [if_pos (by rfl)]
    refine wp_run_val (u := .pointer (some ⟨w0.heap.size, 0, none⟩)) (w' := w0.alloc (.cells z6C 110)) (AL _ rfl _) ?_
    have hb17 := below_al w0 (.cells z6C 110)
    have HB17 := HB0.nx hb17
    refine hK.out _ _ ⟨keepD r1 HB17, keepD r2 HB17⟩ (fun _ => ?_)
    clear hK
    have hr17 := heap_alloc_new w0 (.cells z6C 110)
    have lg17 : w.heap.size ≤ w0.heap.size := HB0.size
    clear hb17
    generalize w0.alloc (.cells z6C 110) = v17 at *
    generalize w0.heap.size = g17 at *
    show wpAnyH _ _ _ _ _ 5 #[true, false, true, false, true, false, false, false] (((a.put (some 26) (.agg C1)).put (some 28) (.agg C2)).put (some 9) (.pointer (some ⟨g17, 0, none⟩))) _
    refine wpAnyH_ready (rs := [1, 5]) (by kernel_rfl) (by simp) ?_
    refine (AllReadyH.cons (o := { dst := some 27, op := .call { callee := .value (.func 47), args := #[.tmp 26], argTypes := #[38] }, type := 110, pos := "torsor.go:117", after := #[{ on := 0, ground := .data }], guard := none }) rfl (fun K hK => ?_) (AllReadyH.cons (o := { dst := some 10, op := .alloc 110, type := 0, pos := "torsor.go:117", after := #[], guard := none }) rfl (fun K hK => ?_) AllReadyH.nil))
    · rw [if_pos (by rfl)]
      refine wp_run_call (f := 47) (args := #[.agg C1]) (by simp [go_sem, Act.eval, Act.put, hsz]) ((c1 v17).mono ?_)
      rintro e v18 ⟨rfl, hb18⟩
      refine ⟨_, rfl, ?_⟩
      have HB18 := HB17.nx hb18
      refine hK.out _ _ ⟨keepD r1 HB18, keepD r2 HB18⟩ (fun _ => ?_)
      clear hK
      have ha18 := keepD hr17 hb18
      show wpAnyH _ _ _ _ _ 4 #[true, true, true, false, true, false, false, false] ((((a.put (some 26) (.agg C1)).put (some 28) (.agg C2)).put (some 9) (.pointer (some ⟨g17, 0, none⟩))).put (some 27) (.agg N1)) _
      refine wpAnyH_ready (rs := [3, 5]) (by kernel_rfl) (by simp) ?_
      refine (AllReadyH.cons (o := { dst := some 29, op := .call { callee := .value (.func 47), args := #[.tmp 28], argTypes := #[38] }, type := 110, pos := "torsor.go:117", after := #[{ on := 2, ground := .data }, { on := 1, ground := .chain }], guard := none }) rfl (fun K hK => ?_) (AllReadyH.cons (o := { dst := some 10, op := .alloc 110, type := 0, pos := "torsor.go:117", after := #[], guard := none }) rfl (fun K hK => ?_) AllReadyH.nil))
      · rw [if_pos (by rfl)]
        refine wp_run_call (f := 47) (args := #[.agg C2]) (by simp [go_sem, Act.eval, Act.put, hsz]) ((c2 v18).mono ?_)
        rintro e v19 ⟨rfl, hb19⟩
        refine ⟨_, rfl, ?_⟩
        have HB19 := HB18.nx hb19
        refine hK.out _ _ ⟨keepD r1 HB19, keepD r2 HB19⟩ (fun _ => ?_)
        clear hK
        have ha19 := keepD ha18 hb19
        show wpAnyH _ _ _ _ _ 3 #[true, true, true, true, true, false, false, false] (((((a.put (some 26) (.agg C1)).put (some 28) (.agg C2)).put (some 9) (.pointer (some ⟨g17, 0, none⟩))).put (some 27) (.agg N1)).put (some 29) (.agg N2)) _
        refine wpAnyH_ready (rs := [5]) (by kernel_rfl) (by simp) ?_
        refine (AllReadyH.cons (o := { dst := some 10, op := .alloc 110, type := 0, pos := "torsor.go:117", after := #[], guard := none }) rfl (fun K hK => ?_) AllReadyH.nil)
        · rw [if_pos (by rfl)]
          refine wp_run_val (u := .pointer (some ⟨v19.heap.size, 0, none⟩)) (w' := v19.alloc (.cells z6C 110)) (AL _ rfl _) ?_
          have hb20 := below_al v19 (.cells z6C 110)
          have HB20 := HB19.nx hb20
          refine hK.out _ _ ⟨keepD r1 HB20, keepD r2 HB20⟩ (fun _ => ?_)
          clear hK
          have hr20 := heap_alloc_new v19 (.cells z6C 110)
          have lg20 : w.heap.size ≤ v19.heap.size := HB19.size
          have hk20 := keepD ha19 hb20
          have hl20 : g17 < v19.heap.size := (Array.getElem?_eq_some_iff.1 ha19).1
          clear hb20
          generalize v19.alloc (.cells z6C 110) = v20 at *
          generalize v19.heap.size = g20 at *
          show wpAnyH _ _ _ _ _ 2 #[true, true, true, true, true, true, false, false] ((((((a.put (some 26) (.agg C1)).put (some 28) (.agg C2)).put (some 9) (.pointer (some ⟨g17, 0, none⟩))).put (some 27) (.agg N1)).put (some 29) (.agg N2)).put (some 10) (.pointer (some ⟨g20, 0, none⟩))) _
          refine wpAnyH_ready (rs := [6]) (by kernel_rfl) (by simp) ?_
          refine AllReadyH.cons (o := { dst := none, op := .store 110 (.tmp 9) (.tmp 27), type := 0, pos := "torsor.go:117", after := #[{ on := 4, ground := .data }, { on := 1, ground := .data }, { on := 3, ground := .chain }, { on := 0, ground := .phase }, { on := 1, ground := .phase }, { on := 2, ground := .textOnly .lateStores }, { on := 3, ground := .textOnly .lateStoresUnsure }, { on := 4, ground := .phase }, { on := 5, ground := .phase }], guard := none }) rfl (fun K hK => ?_) AllReadyH.nil
          rw [if_pos (by rfl)]
          have hx : ((((((a.put (some 26) (.agg C1)).put (some 28) (.agg C2)).put (some 9) (.pointer (some ⟨g17, 0, none⟩))).put (some 27) (.agg N1)).put (some 29) (.agg N2)).put (some 10) (.pointer (some ⟨g20, 0, none⟩))).eval (.tmp 9) = .pointer (some ⟨g17, 0, none⟩) := by simp [Act.eval, Act.put, hsz]
          have hy : ((((((a.put (some 26) (.agg C1)).put (some 28) (.agg C2)).put (some 9) (.pointer (some ⟨g17, 0, none⟩))).put (some 27) (.agg N1)).put (some 29) (.agg N2)).put (some 10) (.pointer (some ⟨g20, 0, none⟩))).eval (.tmp 27) = .agg N1 := by simp [Act.eval, Act.put, hsz]
          with_reducible refine wp_store_rowN rfl 110 (.tmp 9) (.tmp 27) rfl g17 N1 hx hy 110 z6C hk20 n1 hz1 o1 ?_
          clear hx hy
          refine hK.out _ _ ⟨keepD r1 (below_setRow HB20 lg17 _), keepD r2 (below_setRow HB20 lg17 _)⟩ (fun _ => ?_)
          clear hK
          show wpAnyH _ _ _ _ _ 1 #[true, true, true, true, true, true, true, false] ((((((a.put (some 26) (.agg C1)).put (some 28) (.agg C2)).put (some 9) (.pointer (some ⟨g17, 0, none⟩))).put (some 27) (.agg N1)).put (some 29) (.agg N2)).put (some 10) (.pointer (some ⟨g20, 0, none⟩))) _
          refine wpAnyH_ready (rs := [7]) (by kernel_rfl) (by simp) ?_
          refine AllReadyH.cons (o := { dst := none, op := .store 110 (.tmp 10) (.tmp 29), type := 0, pos := "torsor.go:117", after := #[{ on := 5, ground := .data }, { on := 3, ground := .data }, { on := 6, ground := .chain }, { on := 0, ground := .phase }, { on := 1, ground := .phase }, { on := 2, ground := .phase }, { on := 3, ground := .phase }, { on := 4, ground := .phase }, { on := 5, ground := .phase }, { on := 6, ground := .phase }], guard := none }) rfl (fun K hK => ?_) AllReadyH.nil
          rw [if_pos (by rfl)]
          have hne : g17 ≠ g20 := by omega
          have hx : ((((((a.put (some 26) (.agg C1)).put (some 28) (.agg C2)).put (some 9) (.pointer (some ⟨g17, 0, none⟩))).put (some 27) (.agg N1)).put (some 29) (.agg N2)).put (some 10) (.pointer (some ⟨g20, 0, none⟩))).eval (.tmp 10) = .pointer (some ⟨g20, 0, none⟩) := by simp [Act.eval, Act.put, hsz]
          have hy : ((((((a.put (some 26) (.agg C1)).put (some 28) (.agg C2)).put (some 9) (.pointer (some ⟨g17, 0, none⟩))).put (some 27) (.agg N1)).put (some 29) (.agg N2)).put (some 10) (.pointer (some ⟨g20, 0, none⟩))).eval (.tmp 29) = .agg N2 := by simp [Act.eval, Act.put, hsz]
          with_reducible refine wp_store_rowN rfl 110 (.tmp 10) (.tmp 29) rfl g20 N2 hx hy 110 z6C ((setRow_other _ _ _ _ (Ne.symm hne)).trans hr20) n2 hz2 o2 ?_
          clear hx hy
          refine hK.out _ _ ⟨keepD r1 (below_setRow (below_setRow HB20 lg17 _) lg20 _), keepD r2 (below_setRow (below_setRow HB20 lg17 _) lg20 _)⟩ (fun _ => ?_)
          clear hK
          refine wpAnyH_done (by kernel_rfl) ?_ _
          show Q .normal ((((((a.put (some 26) (.agg C1)).put (some 28) (.agg C2)).put (some 9) (.pointer (some ⟨g17, 0, none⟩))).put (some 27) (.agg N1)).put (some 29) (.agg N2)).put (some 10) (.pointer (some ⟨g20, 0, none⟩))) _
          rw [Act.put_comm ((a.put (some 26) (.agg C1)).put (some 28) (.agg C2)) (.pointer (some ⟨g17, 0, none⟩)) (.agg N1) (fun d e1 e2 => by cases e1; cases e2)]
          rw [Act.put_comm (((a.put (some 26) (.agg C1)).put (some 28) (.agg C2)).put (some 27) (.agg N1)) (.pointer (some ⟨g17, 0, none⟩)) (.agg N2) (fun d e1 e2 => by cases e1; cases e2)]
          exact h g17 g20 _ lg17 lg20 hne ((setRow_other _ _ _ _ hne).trans (setRow_heap _ _ _ _ _ _ hk20)) (setRow_heap _ _ _ _ _ _ ((setRow_other _ _ _ _ (Ne.symm hne)).trans hr20)) (below_setRow (below_setRow HB20 lg17 _) lg20 _)
      · rw [if_pos (by rfl)]
        refine wp_run_val (u := .pointer (some ⟨v18.heap.size, 0, none⟩)) (w' := v18.alloc (.cells z6C 110)) (AL _ rfl _) ?_
        have hb21 := below_al v18 (.cells z6C 110)
        have HB21 := HB18.nx hb21
        refine hK.out _ _ ⟨keepD r1 HB21, keepD r2 HB21⟩ (fun _ => ?_)
        clear hK
        have hr21 := heap_alloc_new v18 (.cells z6C 110)
        have lg21 : w.heap.size ≤ v18.heap.size := HB18.size
        have hk21 := keepD ha18 hb21
        have hl21 : g17 < v18.heap.size := (Array.getElem?_eq_some_iff.1 ha18).1
        clear hb21
        generalize v18.alloc (.cells z6C 110) = v21 at *
        generalize v18.heap.size = g21 at *
        show wpAnyH _ _ _ _ _ 3 #[true, true, true, false, true, true, false, false] (((((a.put (some 26) (.agg C1)).put (some 28) (.agg C2)).put (some 9) (.pointer (some ⟨g17, 0, none⟩))).put (some 27) (.agg N1)).put (some 10) (.pointer (some ⟨g21, 0, none⟩))) _
        refine wpAnyH_ready (rs := [3]) (by kernel_rfl) (by simp) ?_
        refine (AllReadyH.cons (o := { dst := some 29, op := .call { callee := .value (.func 47), args := #[.tmp 28], argTypes := #[38] }, type := 110, pos := "torsor.go:117", after := #[{ on := 2, ground := .data }, { on := 1, ground := .chain }], guard := none }) rfl (fun K hK => ?_) AllReadyH.nil)
        · rw [if_pos (by rfl)]
          refine wp_run_call (f := 47) (args := #[.agg C2]) (by simp [go_sem, Act.eval, Act.put, hsz]) ((c2 v21).mono ?_)
          rintro e v22 ⟨rfl, hb22⟩
          refine ⟨_, rfl, ?_⟩
          have HB22 := HB21.nx hb22
          refine hK.out _ _ ⟨keepD r1 HB22, keepD r2 HB22⟩ (fun _ => ?_)
          clear hK
          have ha22 := keepD hk21 hb22
          have hB22 := keepD hr21 hb22
          show wpAnyH _ _ _ _ _ 2 #[true, true, true, true, true, true, false, false] ((((((a.put (some 26) (.agg C1)).put (some 28) (.agg C2)).put (some 9) (.pointer (some ⟨g17, 0, none⟩))).put (some 27) (.agg N1)).put (some 10) (.pointer (some ⟨g21, 0, none⟩))).put (some 29) (.agg N2)) _
          refine wpAnyH_ready (rs := [6]) (by kernel_rfl) (by simp) ?_
          refine AllReadyH.cons (o := { dst := none, op := .store 110 (.tmp 9) (.tmp 27), type := 0, pos := "torsor.go:117", after := #[{ on := 4, ground := .data }, { on := 1, ground := .data }, { on := 3, ground := .chain }, { on := 0, ground := .phase }, { on := 1, ground := .phase }, { on := 2, ground := .textOnly .lateStores }, { on := 3, ground := .textOnly .lateStoresUnsure }, { on := 4, ground := .phase }, { on := 5, ground := .phase }], guard := none }) rfl (fun K hK => ?_) AllReadyH.nil
          rw [if_pos (by rfl)]
          have hx : ((((((a.put (some 26) (.agg C1)).put (some 28) (.agg C2)).put (some 9) (.pointer (some ⟨g17, 0, none⟩))).put (some 27) (.agg N1)).put (some 10) (.pointer (some ⟨g21, 0, none⟩))).put (some 29) (.agg N2)).eval (.tmp 9) = .pointer (some ⟨g17, 0, none⟩) := by simp [Act.eval, Act.put, hsz]
          have hy : ((((((a.put (some 26) (.agg C1)).put (some 28) (.agg C2)).put (some 9) (.pointer (some ⟨g17, 0, none⟩))).put (some 27) (.agg N1)).put (some 10) (.pointer (some ⟨g21, 0, none⟩))).put (some 29) (.agg N2)).eval (.tmp 27) = .agg N1 := by simp [Act.eval, Act.put, hsz]
          with_reducible refine wp_store_rowN rfl 110 (.tmp 9) (.tmp 27) rfl g17 N1 hx hy 110 z6C ha22 n1 hz1 o1 ?_
          clear hx hy
          refine hK.out _ _ ⟨keepD r1 (below_setRow HB22 lg17 _), keepD r2 (below_setRow HB22 lg17 _)⟩ (fun _ => ?_)
          clear hK
          show wpAnyH _ _ _ _ _ 1 #[true, true, true, true, true, true, true, false] ((((((a.put (some 26) (.agg C1)).put (some 28) (.agg C2)).put (some 9) (.pointer (some ⟨g17, 0, none⟩))).put (some 27) (.agg N1)).put (some 10) (.pointer (some ⟨g21, 0, none⟩))).put (some 29) (.agg N2)) _
          refine wpAnyH_ready (rs := [7]) (by kernel_rfl) (by simp) ?_
          refine AllReadyH.cons (o := { dst := none, op := .store 110 (.tmp 10) (.tmp 29), type := 0, pos := "torsor.go:117", after := #[{ on := 5, ground := .data }, { on := 3, ground := .data }, { on := 6, ground := .chain }, { on := 0, ground := .phase }, { on := 1, ground := .phase }, { on := 2, ground := .phase }, { on := 3, ground := .phase }, { on := 4, ground := .phase }, { on := 5, ground := .phase }, { on := 6, ground := .phase }], guard := none }) rfl (fun K hK => ?_) AllReadyH.nil
          rw [if_pos (by rfl)]
          have hne : g17 ≠ g21 := by omega
          have hx : ((((((a.put (some 26) (.agg C1)).put (some 28) (.agg C2)).put (some 9) (.pointer (some ⟨g17, 0, none⟩))).put (some 27) (.agg N1)).put (some 10) (.pointer (some ⟨g21, 0, none⟩))).put (some 29) (.agg N2)).eval (.tmp 10) = .pointer (some ⟨g21, 0, none⟩) := by simp [Act.eval, Act.put, hsz]
          have hy : ((((((a.put (some 26) (.agg C1)).put (some 28) (.agg C2)).put (some 9) (.pointer (some ⟨g17, 0, none⟩))).put (some 27) (.agg N1)).put (some 10) (.pointer (some ⟨g21, 0, none⟩))).put (some 29) (.agg N2)).eval (.tmp 29) = .agg N2 := by simp [Act.eval, Act.put, hsz]
          with_reducible refine wp_store_rowN rfl 110 (.tmp 10) (.tmp 29) rfl g21 N2 hx hy 110 z6C ((setRow_other _ _ _ _ (Ne.symm hne)).trans hB22) n2 hz2 o2 ?_
          clear hx hy
          refine hK.out _ _ ⟨keepD r1 (below_setRow (below_setRow HB22 lg17 _) lg21 _), keepD r2 (below_setRow (below_setRow HB22 lg17 _) lg21 _)⟩ (fun _ => ?_)
          clear hK
          refine wpAnyH_done (by kernel_rfl) ?_ _
          show Q .normal ((((((a.put (some 26) (.agg C1)).put (some 28) (.agg C2)).put (some 9) (.pointer (some ⟨g17, 0, none⟩))).put (some 27) (.agg N1)).put (some 10) (.pointer (some ⟨g21, 0, none⟩))).put (some 29) (.agg N2)) _
          rw [Act.put_comm ((a.put (some 26) (.agg C1)).put (some 28) (.agg C2)) (.pointer (some ⟨g17, 0, none⟩)) (.agg N1) (fun d e1 e2 => by cases e1; cases e2)]
          rw [Act.put_comm ((((a.put (some 26) (.agg C1)).put (some 28) (.agg C2)).put (some 27) (.agg N1)).put (some 9) (.pointer (some ⟨g17, 0, none⟩))) (.pointer (some ⟨g21, 0, none⟩)) (.agg N2) (fun d e1 e2 => by cases e1; cases e2)]
          rw [Act.put_comm (((a.put (some 26) (.agg C1)).put (some 28) (.agg C2)).put (some 27) (.agg N1)) (.pointer (some ⟨g17, 0, none⟩)) (.agg N2) (fun d e1 e2 => by cases e1; cases e2)]
          exact h g17 g21 _ lg17 lg21 hne ((setRow_other _ _ _ _ hne).trans (setRow_heap _ _ _ _ _ _ ha22)) (setRow_heap _ _ _ _ _ _ ((setRow_other _ _ _ _ (Ne.symm hne)).trans hB22)) (below_setRow (below_setRow HB22 lg17 _) lg21 _)
    · rw [if_pos (by rfl)]
      refine wp_run_val (u := .pointer (some ⟨v17.heap.size, 0, none⟩)) (w' := v17.alloc (.cells z6C 110)) (AL _ rfl _) ?_
      have hb23 := below_al v17 (.cells z6C 110)
      have HB23 := HB17.nx hb23
      refine hK.out _ _ ⟨keepD r1 HB23, keepD r2 HB23⟩ (fun _ => ?_)
      clear hK
      have hr23 := heap_alloc_new v17 (.cells z6C 110)
      have lg23 : w.heap.size ≤ v17.heap.size := HB17.size
      have hk23 := keepD hr17 hb23
      have hl23 : g17 < v17.heap.size := (Array.getElem?_eq_some_iff.1 hr17).1
      clear hb23
      generalize v17.alloc (.cells z6C 110) = v23 at *
      generalize v17.heap.size = g23 at *
      show wpAnyH _ _ _ _ _ 4 #[true, false, true, false, true, true, false, false] ((((a.put (some 26) (.agg C1)).put (some 28) (.agg C2)).put (some 9) (.pointer (some ⟨g17, 0, none⟩))).put (some 10) (.pointer (some ⟨g23, 0, none⟩))) _
      refine wpAnyH_ready (rs := [1]) (by kernel_rfl) (by simp) ?_
      refine (AllReadyH.cons (o := { dst := some 27, op := .call { callee := .value (.func 47), args := #[.tmp 26], argTypes := #[38] }, type := 110, pos := "torsor.go:117", after := #[{ on := 0, ground := .data }], guard := none }) rfl (fun K hK => ?_) AllReadyH.nil)
      · rw [if_pos (by rfl)]
        refine wp_run_call (f := 47) (args := #[.agg C1]) (by simp [go_sem, Act.eval, Act.put, hsz]) ((c1 v23).mono ?_)
        rintro e v24 ⟨rfl, hb24⟩
        refine ⟨_, rfl, ?_⟩
        have HB24 := HB23.nx hb24
        refine hK.out _ _ ⟨keepD r1 HB24, keepD r2 HB24⟩ (fun _ => ?_)
        clear hK
        have ha24 := keepD hk23 hb24
        have hB24 := keepD hr23 hb24
        show wpAnyH _ _ _ _ _ 3 #[true, true, true, false, true, true, false, false] (((((a.put (some 26) (.agg C1)).put (some 28) (.agg C2)).put (some 9) (.pointer (some ⟨g17, 0, none⟩))).put (some 10) (.pointer (some ⟨g23, 0, none⟩))).put (some 27) (.agg N1)) _
        refine wpAnyH_ready (rs := [3]) (by kernel_rfl) (by simp) ?_
        refine (AllReadyH.cons (o := { dst := some 29, op := .call { callee := .value (.func 47), args := #[.tmp 28], argTypes := #[38] }, type := 110, pos := "torsor.go:117", after := #[{ on := 2, ground := .data }, { on := 1, ground := .chain }], guard := none }) rfl (fun K hK => ?_) AllReadyH.nil)
        · rw [if_pos (by rfl)]
          refine wp_run_call (f := 47) (args := #[.agg C2]) (by simp [go_sem, Act.eval, Act.put, hsz]) ((c2 v24).mono ?_)
          rintro e v25 ⟨rfl, hb25⟩
          refine ⟨_, rfl, ?_⟩
          have HB25 := HB24.nx hb25
          refine hK.out _ _ ⟨keepD r1 HB25, keepD r2 HB25⟩ (fun _ => ?_)
          clear hK
          have ha25 := keepD ha24 hb25
          have hB25 := keepD hB24 hb25
          show wpAnyH _ _ _ _ _ 2 #[true, true, true, true, true, true, false, false] ((((((a.put (some 26) (.agg C1)).put (some 28) (.agg C2)).put (some 9) (.pointer (some ⟨g17, 0, none⟩))).put (some 10) (.pointer (some ⟨g23, 0, none⟩))).put (some 27) (.agg N1)).put (some 29) (.agg N2)) _
          refine wpAnyH_ready (rs := [6]) (by kernel_rfl) (by simp) ?_
          refine AllReadyH.cons (o := { dst := none, op := .store 110 (.tmp 9) (.tmp 27), type := 0, pos := "torsor.go:117", after := #[{ on := 4, ground := .data }, { on := 1, ground := .data }, { on := 3, ground := .chain }, { on := 0, ground := .phase }, { on := 1, ground := .phase }, { on := 2, ground := .textOnly .lateStores }, { on := 3, ground := .textOnly .lateStoresUnsure }, { on := 4, ground := .phase }, { on := 5, ground := .phase }], guard := none }) rfl (fun K hK => ?_) AllReadyH.nil
          rw [if_pos (by rfl)]
          have hx : ((((((a.put (some 26) (.agg C1)).put (some 28) (.agg C2)).put (some 9) (.pointer (some ⟨g17, 0, none⟩))).put (some 10) (.pointer (some ⟨g23, 0, none⟩))).put (some 27) (.agg N1)).put (some 29) (.agg N2)).eval (.tmp 9) = .pointer (some ⟨g17, 0, none⟩) := by simp [Act.eval, Act.put, hsz]
          have hy : ((((((a.put (some 26) (.agg C1)).put (some 28) (.agg C2)).put (some 9) (.pointer (some ⟨g17, 0, none⟩))).put (some 10) (.pointer (some ⟨g23, 0, none⟩))).put (some 27) (.agg N1)).put (some 29) (.agg N2)).eval (.tmp 27) = .agg N1 := by simp [Act.eval, Act.put, hsz]
          with_reducible refine wp_store_rowN rfl 110 (.tmp 9) (.tmp 27) rfl g17 N1 hx hy 110 z6C ha25 n1 hz1 o1 ?_
          clear hx hy
          refine hK.out _ _ ⟨keepD r1 (below_setRow HB25 lg17 _), keepD r2 (below_setRow HB25 lg17 _)⟩ (fun _ => ?_)
          clear hK
          show wpAnyH _ _ _ _ _ 1 #[true, true, true, true, true, true, true, false] ((((((a.put (some 26) (.agg C1)).put (some 28) (.agg C2)).put (some 9) (.pointer (some ⟨g17, 0, none⟩))).put (some 10) (.pointer (some ⟨g23, 0, none⟩))).put (some 27) (.agg N1)).put (some 29) (.agg N2)) _
          refine wpAnyH_ready (rs := [7]) (by kernel_rfl) (by simp) ?_
          refine AllReadyH.cons (o := { dst := none, op := .store 110 (.tmp 10) (.tmp 29), type := 0, pos := "torsor.go:117", after := #[{ on := 5, ground := .data }, { on := 3, ground := .data }, { on := 6, ground := .chain }, { on := 0, ground := .phase }, { on := 1, ground := .phase }, { on := 2, ground := .phase }, { on := 3, ground := .phase }, { on := 4, ground := .phase }, { on := 5, ground := .phase }, { on := 6, ground := .phase }], guard := none }) rfl (fun K hK => ?_) AllReadyH.nil
          rw [if_pos (by rfl)]
          have hne : g17 ≠ g23 := by omega
          have hx : ((((((a.put (some 26) (.agg C1)).put (some 28) (.agg C2)).put (some 9) (.pointer (some ⟨g17, 0, none⟩))).put (some 10) (.pointer (some ⟨g23, 0, none⟩))).put (some 27) (.agg N1)).put (some 29) (.agg N2)).eval (.tmp 10) = .pointer (some ⟨g23, 0, none⟩) := by simp [Act.eval, Act.put, hsz]
          have hy : ((((((a.put (some 26) (.agg C1)).put (some 28) (.agg C2)).put (some 9) (.pointer (some ⟨g17, 0, none⟩))).put (some 10) (.pointer (some ⟨g23, 0, none⟩))).put (some 27) (.agg N1)).put (some 29) (.agg N2)).eval (.tmp 29) = .agg N2 := by simp [Act.eval, Act.put, hsz]
          with_reducible refine wp_store_rowN rfl 110 (.tmp 10) (.tmp 29) rfl g23 N2 hx hy 110 z6C ((setRow_other _ _ _ _ (Ne.symm hne)).trans hB25) n2 hz2 o2 ?_
          clear hx hy
          refine hK.out _ _ ⟨keepD r1 (below_setRow (below_setRow HB25 lg17 _) lg23 _), keepD r2 (below_setRow (below_setRow HB25 lg17 _) lg23 _)⟩ (fun _ => ?_)
          clear hK
          refine wpAnyH_done (by kernel_rfl) ?_ _
          show Q .normal ((((((a.put (some 26) (.agg C1)).put (some 28) (.agg C2)).put (some 9) (.pointer (some ⟨g17, 0, none⟩))).put (some 10) (.pointer (some ⟨g23, 0, none⟩))).put (some 27) (.agg N1)).put (some 29) (.agg N2)) _
          rw [Act.put_comm (((a.put (some 26) (.agg C1)).put (some 28) (.agg C2)).put (some 9) (.pointer (some ⟨g17, 0, none⟩))) (.pointer (some ⟨g23, 0, none⟩)) (.agg N1) (fun d e1 e2 => by cases e1; cases e2)]
          rw [Act.put_comm ((((a.put (some 26) (.agg C1)).put (some 28) (.agg C2)).put (some 9) (.pointer (some ⟨g17, 0, none⟩))).put (some 27) (.agg N1)) (.pointer (some ⟨g23, 0, none⟩)) (.agg N2) (fun d e1 e2 => by cases e1; cases e2)]
          rw [Act.put_comm ((a.put (some 26) (.agg C1)).put (some 28) (.agg C2)) (.pointer (some ⟨g17, 0, none⟩)) (.agg N1) (fun d e1 e2 => by cases e1; cases e2)]
          rw [Act.put_comm (((a.put (some 26) (.agg C1)).put (some 28) (.agg C2)).put (some 27) (.agg N1)) (.pointer (some ⟨g17, 0, none⟩)) (.agg N2) (fun d e1 e2 => by cases e1; cases e2)]
          exact h g17 g23 _ lg17 lg23 hne ((setRow_other _ _ _ _ hne).trans (setRow_heap _ _ _ _ _ _ ha25)) (setRow_heap _ _ _ _ _ _ ((setRow_other _ _ _ _ (Ne.symm hne)).trans hB25)) (below_setRow (below_setRow HB25 lg17 _) lg23 _)
  · rw [if_pos (by rfl)]
    refine wp_run_val (u := .pointer (some ⟨w0.heap.size, 0, none⟩)) (w' := w0.alloc (.cells z6C 110)) (AL _ rfl _) ?_
    have hb26 := below_al w0 (.cells z6C 110)
    have HB26 := HB0.nx hb26
    refine hK.out _ _ ⟨keepD r1 HB26, keepD r2 HB26⟩ (fun _ => ?_)
    clear hK
    have hr26 := heap_alloc_new w0 (.cells z6C 110)
    have lg26 : w.heap.size ≤ w0.heap.size := HB0.size
    clear hb26
    generalize w0.alloc (.cells z6C 110) = v26 at *
    generalize w0.heap.size = g26 at *
    show wpAnyH _ _ _ _ _ 5 #[true, false, true, false, false, true, false, false] (((a.put (some 26) (.agg C1)).put (some 28) (.agg C2)).put (some 10) (.pointer (some ⟨g26, 0, none⟩))) _
    refine wpAnyH_ready (rs := [1, 4]) (by kernel_rfl) (by simp) ?_
    refine (AllReadyH.cons (o := { dst := some 27, op := .call { callee := .value (.func 47), args := #[.tmp 26], argTypes := #[38] }, type := 110, pos := "torsor.go:117", after := #[{ on := 0, ground := .data }], guard := none }) rfl (fun K hK => ?_) (AllReadyH.cons (o := { dst := some 9, op := .alloc 110, type := 0, pos := "torsor.go:117", after := #[], guard := none }) rfl (fun K hK => ?_) AllReadyH.nil))
    · rw [if_pos (by rfl)]
      refine wp_run_call (f := 47) (args := #[.agg C1]) (by simp [go_sem, Act.eval, Act.put, hsz]) ((c1 v26).mono ?_)
      rintro e v27 ⟨rfl, hb27⟩
      refine ⟨_, rfl, ?_⟩
      have HB27 := HB26.nx hb27
      refine hK.out _ _ ⟨keepD r1 HB27, keepD r2 HB27⟩ (fun _ => ?_)
      clear hK
      have hB27 := keepD hr26 hb27
      show wpAnyH _ _ _ _ _ 4 #[true, true, true, false, false, true, false, false] ((((a.put (some 26) (.agg C1)).put (some 28) (.agg C2)).put (some 10) (.pointer (some ⟨g26, 0, none⟩))).put (some 27) (.agg N1)) _
      refine wpAnyH_ready (rs := [3, 4]) (by kernel_rfl) (by simp) ?_
      refine (AllReadyH.cons (o := { dst := some 29, op := .call { callee := .value (.func 47), args := #[.tmp 28], argTypes := #[38] }, type := 110, pos := "torsor.go:117", after := #[{ on := 2, ground := .data }, { on := 1, ground := .chain }], guard := none }) rfl (fun K hK => ?_) (AllReadyH.cons (o := { dst := some 9, op := .alloc 110, type := 0, pos := "torsor.go:117", after := #[], guard := none }) rfl (fun K hK => ?_) AllReadyH.nil))
      · rw [if_pos (by rfl)]
        refine wp_run_call (f := 47) (args := #[.agg C2]) (by simp [go_sem, Act.eval, Act.put, hsz]) ((c2 v27).mono ?_)
        rintro e v28 ⟨rfl, hb28⟩
        refine ⟨_, rfl, ?_⟩
        have HB28 := HB27.nx hb28
        refine hK.out _ _ ⟨keepD r1 HB28, keepD r2 HB28⟩ (fun _ => ?_)
        clear hK
        have hB28 := keepD hB27 hb28
        show wpAnyH _ _ _ _ _ 3 #[true, true, true, true, false, true, false, false] (((((a.put (some 26) (.agg C1)).put (some 28) (.agg C2)).put (some 10) (.pointer (some ⟨g26, 0, none⟩))).put (some 27) (.agg N1)).put (some 29) (.agg N2)) _
        refine wpAnyH_ready (rs := [4]) (by kernel_rfl) (by simp) ?_
        refine (AllReadyH.cons (o := { dst := some 9, op := .alloc 110, type := 0, pos := "torsor.go:117", after := #[], guard := none }) rfl (fun K hK => ?_) AllReadyH.nil)
        · rw [if_pos (by rfl)]
          refine wp_run_val (u := .pointer (some ⟨v28.heap.size, 0, none⟩)) (w' := v28.alloc (.cells z6C 110)) (AL _ rfl _) ?_
          have hb29 := below_al v28 (.cells z6C 110)
          have HB29 := HB28.nx hb29
          refine hK.out _ _ ⟨keepD r1 HB29, keepD r2 HB29⟩ (fun _ => ?_)
          clear hK
          have hr29 := heap_alloc_new v28 (.cells z6C 110)
          have lg29 : w.heap.size ≤ v28.heap.size := HB28.size
          have hk29 := keepD hB28 hb29
          have hl29 : g26 < v28.heap.size := (Array.getElem?_eq_some_iff.1 hB28).1
          clear hb29
          generalize v28.alloc (.cells z6C 110) = v29 at *
          generalize v28.heap.size = g29 at *
          show wpAnyH _ _ _ _ _ 2 #[true, true, true, true, true, true, false, false] ((((((a.put (some 26) (.agg C1)).put (some 28) (.agg C2)).put (some 10) (.pointer (some ⟨g26, 0, none⟩))).put (some 27) (.agg N1)).put (some 29) (.agg N2)).put (some 9) (.pointer (some ⟨g29, 0, none⟩))) _
          refine wpAnyH_ready (rs := [6]) (by kernel_rfl) (by simp) ?_
          refine AllReadyH.cons (o := { dst := none, op := .store 110 (.tmp 9) (.tmp 27), type := 0, pos := "torsor.go:117", after := #[{ on := 4, ground := .data }, { on := 1, ground := .data }, { on := 3, ground := .chain }, { on := 0, ground := .phase }, { on := 1, ground := .phase }, { on := 2, ground := .textOnly .lateStores }, { on := 3, ground := .textOnly .lateStoresUnsure }, { on := 4, ground := .phase }, { on := 5, ground := .phase }], guard := none }) rfl (fun K hK => ?_) AllReadyH.nil
          rw [if_pos (by rfl)]
          have hx : ((((((a.put (some 26) (.agg C1)).put (some 28) (.agg C2)).put (some 10) (.pointer (some ⟨g26, 0, none⟩))).put (some 27) (.agg N1)).put (some 29) (.agg N2)).put (some 9) (.pointer (some ⟨g29, 0, none⟩))).eval (.tmp 9) = .pointer (some ⟨g29, 0, none⟩) := by simp [Act.eval, Act.put, hsz]
          have hy : ((((((a.put (some 26) (.agg C1)).put (some 28) (.agg C2)).put (some 10) (.pointer (some ⟨g26, 0, none⟩))).put (some 27) (.agg N1)).put (some 29) (.agg N2)).put (some 9) (.pointer (some ⟨g29, 0, none⟩))).eval (.tmp 27) = .agg N1 := by simp [Act.eval, Act.put, hsz]
          with_reducible refine wp_store_rowN rfl 110 (.tmp 9) (.tmp 27) rfl g29 N1 hx hy 110 z6C hr29 n1 hz1 o1 ?_
          clear hx hy
          refine hK.out _ _ ⟨keepD r1 (below_setRow HB29 lg29 _), keepD r2 (below_setRow HB29 lg29 _)⟩ (fun _ => ?_)
          clear hK
          show wpAnyH _ _ _ _ _ 1 #[true, true, true, true, true, true, true, false] ((((((a.put (some 26) (.agg C1)).put (some 28) (.agg C2)).put (some 10) (.pointer (some ⟨g26, 0, none⟩))).put (some 27) (.agg N1)).put (some 29) (.agg N2)).put (some 9) (.pointer (some ⟨g29, 0, none⟩))) _
          refine wpAnyH_ready (rs := [7]) (by kernel_rfl) (by simp) ?_
          refine AllReadyH.cons (o := { dst := none, op := .store 110 (.tmp 10) (.tmp 29), type := 0, pos := "torsor.go:117", after := #[{ on := 5, ground := .data }, { on := 3, ground := .data }, { on := 6, ground := .chain }, { on := 0, ground := .phase }, { on := 1, ground := .phase }, { on := 2, ground := .phase }, { on := 3, ground := .phase }, { on := 4, ground := .phase }, { on := 5, ground := .phase }, { on := 6, ground := .phase }], guard := none }) rfl (fun K hK => ?_) AllReadyH.nil
          rw [if_pos (by rfl)]
          have hne : g29 ≠ g26 := by omega
          have hx : ((((((a.put (some 26) (.agg C1)).put (some 28) (.agg C2)).put (some 10) (.pointer (some ⟨g26, 0, none⟩))).put (some 27) (.agg N1)).put (some 29) (.agg N2)).put (some 9) (.pointer (some ⟨g29, 0, none⟩))).eval (.tmp 10) = .pointer (some ⟨g26, 0, none⟩) := by simp [Act.eval, Act.put, hsz]
          have hy : ((((((a.put (some 26) (.agg C1)).put (some 28) (.agg C2)).put (some 10) (.pointer (some ⟨g26, 0, none⟩))).put (some 27) (.agg N1)).put (some 29) (.agg N2)).put (some 9) (.pointer (some ⟨g29, 0, none⟩))).eval (.tmp 29) = .agg N2 := by simp [Act.eval, Act.put, hsz]
          with_reducible refine wp_store_rowN rfl 110 (.tmp 10) (.tmp 29) rfl g26 N2 hx hy 110 z6C ((setRow_other _ _ _ _ (Ne.symm hne)).trans hk29) n2 hz2 o2 ?_
          clear hx hy
          refine hK.out _ _ ⟨keepD r1 (below_setRow (below_setRow HB29 lg29 _) lg26 _), keepD r2 (below_setRow (below_setRow HB29 lg29 _) lg26 _)⟩ (fun _ => ?_)
          clear hK
          refine wpAnyH_done (by kernel_rfl) ?_ _
          show Q .normal ((((((a.put (some 26) (.agg C1)).put (some 28) (.agg C2)).put (some 10) (.pointer (some ⟨g26, 0, none⟩))).put (some 27) (.agg N1)).put (some 29) (.agg N2)).put (some 9) (.pointer (some ⟨g29, 0, none⟩))) _
          rw [Act.put_comm ((a.put (some 26) (.agg C1)).put (some 28) (.agg C2)) (.pointer (some ⟨g26, 0, none⟩)) (.agg N1) (fun d e1 e2 => by cases e1; cases e2)]
          rw [Act.put_comm (((a.put (some 26) (.agg C1)).put (some 28) (.agg C2)).put (some 27) (.agg N1)) (.pointer (some ⟨g26, 0, none⟩)) (.agg N2) (fun d e1 e2 => by cases e1; cases e2)]
          rw [Act.put_comm ((((a.put (some 26) (.agg C1)).put (some 28) (.agg C2)).put (some 27) (.agg N1)).put (some 29) (.agg N2)) (.pointer (some ⟨g26, 0, none⟩)) (.pointer (some ⟨g29, 0, none⟩)) (fun d e1 e2 => by cases e1; cases e2)]
          exact h g29 g26 _ lg29 lg26 hne ((setRow_other _ _ _ _ hne).trans (setRow_heap _ _ _ _ _ _ hr29)) (setRow_heap _ _ _ _ _ _ ((setRow_other _ _ _ _ (Ne.symm hne)).trans hk29)) (below_setRow (below_setRow HB29 lg29 _) lg26 _)
      · rw [if_pos (by rfl)]
        refine wp_run_val (u := .pointer (some ⟨v27.heap.size, 0, none⟩)) (w' := v27.alloc (.cells z6C 110)) (AL _ rfl _) ?_
        have hb30 := below_al v27 (.cells z6C 110)
        have HB30 := HB27.nx hb30
        refine hK.out _ _ ⟨keepD r1 HB30, keepD r2 HB30⟩ (fun _ => ?_)
        clear hK
        have hr30 := heap_alloc_new v27 (.cells z6C 110)
        have lg30 : w.heap.size ≤ v27.heap.size := HB27.size
        have hk30 := keepD hB27 hb30
        have hl30 : g26 < v27.heap.size := (Array.getElem?_eq_some_iff.1 hB27).1
        clear hb30
        generalize v27.alloc (.cells z6C 110) = v30 at *
        generalize v27.heap.size = g30 at *
        show wpAnyH _ _ _ _ _ 3 #[true, true, true, false, true, true, false, false] (((((a.put (some 26) (.agg C1)).put (some 28) (.agg C2)).put (some 10) (.pointer (some ⟨g26, 0, none⟩))).put (some 27) (.agg N1)).put (some 9) (.pointer (some ⟨g30, 0, none⟩))) _
        refine wpAnyH_ready (rs := [3]) (by kernel_rfl) (by simp) ?_
        refine (AllReadyH.cons (o := { dst := some 29, op := .call { callee := .value (.func 47), args := #[.tmp 28], argTypes := #[38] }, type := 110, pos := "torsor.go:117", after := #[{ on := 2, ground := .data }, { on := 1, ground := .chain }], guard := none }) rfl (fun K hK => ?_) AllReadyH.nil)
        · rw [if_pos (by rfl)]
          refine wp_run_call (f := 47) (args := #[.agg C2]) (by simp [go_sem, Act.eval, Act.put, hsz]) ((c2 v30).mono ?_)
          rintro e v31 ⟨rfl, hb31⟩
          refine ⟨_, rfl, ?_⟩
          have HB31 := HB30.nx hb31
          refine hK.out _ _ ⟨keepD r1 HB31, keepD r2 HB31⟩ (fun _ => ?_)
          clear hK
          have ha31 := keepD hr30 hb31
          have hB31 := keepD hk30 hb31
          show wpAnyH _ _ _ _ _ 2 #[true, true, true, true, true, true, false, false] ((((((a.put (some 26) (.agg C1)).put (some 28) (.agg C2)).put (some 10) (.pointer (some ⟨g26, 0, none⟩))).put (some 27) (.agg N1)).put (some 9) (.pointer (some ⟨g30, 0, none⟩))).put (some 29) (.agg N2)) _
          refine wpAnyH_ready (rs := [6]) (by kernel_rfl) (by simp) ?_
          refine AllReadyH.cons (o := { dst := none, op := .store 110 (.tmp 9) (.tmp 27), type := 0, pos := "torsor.go:117", after := #[{ on := 4, ground := .data }, { on := 1, ground := .data }, { on := 3, ground := .chain }, { on := 0, ground := .phase }, { on := 1, ground := .phase }, { on := 2, ground := .textOnly .lateStores }, { on := 3, ground := .textOnly .lateStoresUnsure }, { on := 4, ground := .phase }, { on := 5, ground := .phase }], guard := none }) rfl (fun K hK => ?_) AllReadyH.nil
          rw [if_pos (by rfl)]
          have hx : ((((((a.put (some 26) (.agg C1)).put (some 28) (.agg C2)).put (some 10) (.pointer (some ⟨g26, 0, none⟩))).put (some 27) (.agg N1)).put (some 9) (.pointer (some ⟨g30, 0, none⟩))).put (some 29) (.agg N2)).eval (.tmp 9) = .pointer (some ⟨g30, 0, none⟩) := by simp [Act.eval, Act.put, hsz]
          have hy : ((((((a.put (some 26) (.agg C1)).put (some 28) (.agg C2)).put (some 10) (.pointer (some ⟨g26, 0, none⟩))).put (some 27) (.agg N1)).put (some 9) (.pointer (some ⟨g30, 0, none⟩))).put (some 29) (.agg N2)).eval (.tmp 27) = .agg N1 := by simp [Act.eval, Act.put, hsz]
          with_reducible refine wp_store_rowN rfl 110 (.tmp 9) (.tmp 27) rfl g30 N1 hx hy 110 z6C ha31 n1 hz1 o1 ?_
          clear hx hy
          refine hK.out _ _ ⟨keepD r1 (below_setRow HB31 lg30 _), keepD r2 (below_setRow HB31 lg30 _)⟩ (fun _ => ?_)
          clear hK
          show wpAnyH _ _ _ _ _ 1 #[true, true, true, true, true, true, true, false] ((((((a.put (some 26) (.agg C1)).put (some 28) (.agg C2)).put (some 10) (.pointer (some ⟨g26, 0, none⟩))).put (some 27) (.agg N1)).put (some 9) (.pointer (some ⟨g30, 0, none⟩))).put (some 29) (.agg N2)) _
          refine wpAnyH_ready (rs := [7]) (by kernel_rfl) (by simp) ?_
          refine AllReadyH.cons (o := { dst := none, op := .store 110 (.tmp 10) (.tmp 29), type := 0, pos := "torsor.go:117", after := #[{ on := 5, ground := .data }, { on := 3, ground := .data }, { on := 6, ground := .chain }, { on := 0, ground := .phase }, { on := 1, ground := .phase }, { on := 2, ground := .phase }, { on := 3, ground := .phase }, { on := 4, ground := .phase }, { on := 5, ground := .phase }, { on := 6, ground := .phase }], guard := none }) rfl (fun K hK => ?_) AllReadyH.nil
          rw [if_pos (by rfl)]
          have hne : g30 ≠ g26 := by omega
          have hx : ((((((a.put (some 26) (.agg C1)).put (some 28) (.agg C2)).put (some 10) (.pointer (some ⟨g26, 0, none⟩))).put (some 27) (.agg N1)).put (some 9) (.pointer (some ⟨g30, 0, none⟩))).put (some 29) (.agg N2)).eval (.tmp 10) = .pointer (some ⟨g26, 0, none⟩) := by simp [Act.eval, Act.put, hsz]
          have hy : ((((((a.put (some 26) (.agg C1)).put (some 28) (.agg C2)).put (some 10) (.pointer (some ⟨g26, 0, none⟩))).put (some 27) (.agg N1)).put (some 9) (.pointer (some ⟨g30, 0, none⟩))).put (some 29) (.agg N2)).eval (.tmp 29) = .agg N2 := by simp [Act.eval, Act.put, hsz]
          with_reducible refine wp_store_rowN rfl 110 (.tmp 10) (.tmp 29) rfl g26 N2 hx hy 110 z6C ((setRow_other _ _ _ _ (Ne.symm hne)).trans hB31) n2 hz2 o2 ?_
          clear hx hy
          refine hK.out _ _ ⟨keepD r1 (below_setRow (below_setRow HB31 lg30 _) lg26 _), keepD r2 (below_setRow (below_setRow HB31 lg30 _) lg26 _)⟩ (fun _ => ?_)
          clear hK
          refine wpAnyH_done (by kernel_rfl) ?_ _
          show Q .normal ((((((a.put (some 26) (.agg C1)).put (some 28) (.agg C2)).put (some 10) (.pointer (some ⟨g26, 0, none⟩))).put (some 27) (.agg N1)).put (some 9) (.pointer (some ⟨g30, 0, none⟩))).put (some 29) (.agg N2)) _
          rw [Act.put_comm ((a.put (some 26) (.agg C1)).put (some 28) (.agg C2)) (.pointer (some ⟨g26, 0, none⟩)) (.agg N1) (fun d e1 e2 => by cases e1; cases e2)]
          rw [Act.put_comm (((a.put (some 26) (.agg C1)).put (some 28) (.agg C2)).put (some 27) (.agg N1)) (.pointer (some ⟨g26, 0, none⟩)) (.pointer (some ⟨g30, 0, none⟩)) (fun d e1 e2 => by cases e1; cases e2)]
          rw [Act.put_comm ((((a.put (some 26) (.agg C1)).put (some 28) (.agg C2)).put (some 27) (.agg N1)).put (some 9) (.pointer (some ⟨g30, 0, none⟩))) (.pointer (some ⟨g26, 0, none⟩)) (.agg N2) (fun d e1 e2 => by cases e1; cases e2)]
          rw [Act.put_comm (((a.put (some 26) (.agg C1)).put (some 28) (.agg C2)).put (some 27) (.agg N1)) (.pointer (some ⟨g30, 0, none⟩)) (.agg N2) (fun d e1 e2 => by cases e1; cases e2)]
          exact h g30 g26 _ lg30 lg26 hne ((setRow_other _ _ _ _ hne).trans (setRow_heap _ _ _ _ _ _ ha31)) (setRow_heap _ _ _ _ _ _ ((setRow_other _ _ _ _ (Ne.symm hne)).trans hB31)) (below_setRow (below_setRow HB31 lg30 _) lg26 _)
    · rw [if_pos (by rfl)]
      refine wp_run_val (u := .pointer (some ⟨v26.heap.size, 0, none⟩)) (w' := v26.alloc (.cells z6C 110)) (AL _ rfl _) ?_
      have hb32 := below_al v26 (.cells z6C 110)
      have HB32 := HB26.nx hb32
      refine hK.out _ _ ⟨keepD r1 HB32, keepD r2 HB32⟩ (fun _ => ?_)
      clear hK
      have hr32 := heap_alloc_new v26 (.cells z6C 110)
      have lg32 : w.heap.size ≤ v26.heap.size := HB26.size
      have hk32 := keepD hr26 hb32
      have hl32 : g26 < v26.heap.size := (Array.getElem?_eq_some_iff.1 hr26).1
      clear hb32
      generalize v26.alloc (.cells z6C 110) = v32 at *
      generalize v26.heap.size = g32 at *
      show wpAnyH _ _ _ _ _ 4 #[true, false, true, false, true, true, false, false] ((((a.put (some 26) (.agg C1)).put (some 28) (.agg C2)).put (some 10) (.pointer (some ⟨g26, 0, none⟩))).put (some 9) (.pointer (some ⟨g32, 0, none⟩))) _
      refine wpAnyH_ready (rs := [1]) (by kernel_rfl) (by simp) ?_
      refine (AllReadyH.cons (o := { dst := some 27, op := .call { callee := .value (.func 47), args := #[.tmp 26], argTypes := #[38] }, type := 110, pos := "torsor.go:117", after := #[{ on := 0, ground := .data }], guard := none }) rfl (fun K hK => ?_) AllReadyH.nil)
      · rw [if_pos (by rfl)]
        refine wp_run_call (f := 47) (args := #[.agg C1]) (by simp [go_sem, Act.eval, Act.put, hsz]) ((c1 v32).mono ?_)
        rintro e v33 ⟨rfl, hb33⟩
        refine ⟨_, rfl, ?_⟩
        have HB33 := HB32.nx hb33
        refine hK.out _ _ ⟨keepD r1 HB33, keepD r2 HB33⟩ (fun _ => ?_)
        clear hK
        have ha33 := keepD hr32 hb33
        have hB33 := keepD hk32 hb33
        show wpAnyH _ _ _ _ _ 3 #[true, true, true, false, true, true, false, false] (((((a.put (some 26) (.agg C1)).put (some 28) (.agg C2)).put (some 10) (.pointer (some ⟨g26, 0, none⟩))).put (some 9) (.pointer (some ⟨g32, 0, none⟩))).put (some 27) (.agg N1)) _
        refine wpAnyH_ready (rs := [3]) (by kernel_rfl) (by simp) ?_
        refine (AllReadyH.cons (o := { dst := some 29, op := .call { callee := .value (.func 47), args := #[.tmp 28], argTypes := #[38] }, type := 110, pos := "torsor.go:117", after := #[{ on := 2, ground := .data }, { on := 1, ground := .chain }], guard := none }) rfl (fun K hK => ?_) AllReadyH.nil)
        · rw [if_pos (by rfl)]
          refine wp_run_call (f := 47) (args := #[.agg C2]) (by simp [go_sem, Act.eval, Act.put, hsz]) ((c2 v33).mono ?_)
          rintro e v34 ⟨rfl, hb34⟩
          refine ⟨_, rfl, ?_⟩
          have HB34 := HB33.nx hb34
          refine hK.out _ _ ⟨keepD r1 HB34, keepD r2 HB34⟩ (fun _ => ?_)
          clear hK
          have ha34 := keepD ha33 hb34
          have hB34 := keepD hB33 hb34
          show wpAnyH _ _ _ _ _ 2 #[true, true, true, true, true, true, false, false] ((((((a.put (some 26) (.agg C1)).put (some 28) (.agg C2)).put (some 10) (.pointer (some ⟨g26, 0, none⟩))).put (some 9) (.pointer (some ⟨g32, 0, none⟩))).put (some 27) (.agg N1)).put (some 29) (.agg N2)) _
          refine wpAnyH_ready (rs := [6]) (by kernel_rfl) (by simp) ?_
          refine AllReadyH.cons (o := { dst := none, op := .store 110 (.tmp 9) (.tmp 27), type := 0, pos := "torsor.go:117", after := #[{ on := 4, ground := .data }, { on := 1, ground := .data }, { on := 3, ground := .chain }, { on := 0, ground := .phase }, { on := 1, ground := .phase }, { on := 2, ground := .textOnly .lateStores }, { on := 3, ground := .textOnly .lateStoresUnsure }, { on := 4, ground := .phase }, { on := 5, ground := .phase }], guard := none }) rfl (fun K hK => ?_) AllReadyH.nil
          rw [if_pos (by rfl)]
          have hx : ((((((a.put (some 26) (.agg C1)).put (some 28) (.agg C2)).put (some 10) (.pointer (some ⟨g26, 0, none⟩))).put (some 9) (.pointer (some ⟨g32, 0, none⟩))).put (some 27) (.agg N1)).put (some 29) (.agg N2)).eval (.tmp 9) = .pointer (some ⟨g32, 0, none⟩) := by simp [Act.eval, Act.put, hsz]
          have hy : ((((((a.put (some 26) (.agg C1)).put (some 28) (.agg C2)).put (some 10) (.pointer (some ⟨g26, 0, none⟩))).put (some 9) (.pointer (some ⟨g32, 0, none⟩))).put (some 27) (.agg N1)).put (some 29) (.agg N2)).eval (.tmp 27) = .agg N1 := by simp [Act.eval, Act.put, hsz]
          with_reducible refine wp_store_rowN rfl 110 (.tmp 9) (.tmp 27) rfl g32 N1 hx hy 110 z6C ha34 n1 hz1 o1 ?_
          clear hx hy
          refine hK.out _ _ ⟨keepD r1 (below_setRow HB34 lg32 _), keepD r2 (below_setRow HB34 lg32 _)⟩ (fun _ => ?_)
          clear hK
          show wpAnyH _ _ _ _ _ 1 #[true, true, true, true, true, true, true, false] ((((((a.put (some 26) (.agg C1)).put (some 28) (.agg C2)).put (some 10) (.pointer (some ⟨g26, 0, none⟩))).put (some 9) (.pointer (some ⟨g32, 0, none⟩))).put (some 27) (.agg N1)).put (some 29) (.agg N2)) _
          refine wpAnyH_ready (rs := [7]) (by kernel_rfl) (by simp) ?_
          refine AllReadyH.cons (o := { dst := none, op := .store 110 (.tmp 10) (.tmp 29), type := 0, pos := "torsor.go:117", after := #[{ on := 5, ground := .data }, { on := 3, ground := .data }, { on := 6, ground := .chain }, { on := 0, ground := .phase }, { on := 1, ground := .phase }, { on := 2, ground := .phase }, { on := 3, ground := .phase }, { on := 4, ground := .phase }, { on := 5, ground := .phase }, { on := 6, ground := .phase }], guard := none }) rfl (fun K hK => ?_) AllReadyH.nil
          rw [if_pos (by rfl)]
          have hne : g32 ≠ g26 := by omega
          have hx : ((((((a.put (some 26) (.agg C1)).put (some 28) (.agg C2)).put (some 10) (.pointer (some ⟨g26, 0, none⟩))).put (some 9) (.pointer (some ⟨g32, 0, none⟩))).put (some 27) (.agg N1)).put (some 29) (.agg N2)).eval (.tmp 10) = .pointer (some ⟨g26, 0, none⟩) := by simp [Act.eval, Act.put, hsz]
          have hy : ((((((a.put (some 26) (.agg C1)).put (some 28) (.agg C2)).put (some 10) (.pointer (some ⟨g26, 0, none⟩))).put (some 9) (.pointer (some ⟨g32, 0, none⟩))).put (some 27) (.agg N1)).put (some 29) (.agg N2)).eval (.tmp 29) = .agg N2 := by simp [Act.eval, Act.put, hsz]
          with_reducible refine wp_store_rowN rfl 110 (.tmp 10) (.tmp 29) rfl g26 N2 hx hy 110 z6C ((setRow_other _ _ _ _ (Ne.symm hne)).trans hB34) n2 hz2 o2 ?_
          clear hx hy
          refine hK.out _ _ ⟨keepD r1 (below_setRow (below_setRow HB34 lg32 _) lg26 _), keepD r2 (below_setRow (below_setRow HB34 lg32 _) lg26 _)⟩ (fun _ => ?_)
          clear hK
          refine wpAnyH_done (by kernel_rfl) ?_ _
          show Q .normal ((((((a.put (some 26) (.agg C1)).put (some 28) (.agg C2)).put (some 10) (.pointer (some ⟨g26, 0, none⟩))).put (some 9) (.pointer (some ⟨g32, 0, none⟩))).put (some 27) (.agg N1)).put (some 29) (.agg N2)) _
          rw [Act.put_comm ((a.put (some 26) (.agg C1)).put (some 28) (.agg C2)) (.pointer (some ⟨g26, 0, none⟩)) (.pointer (some ⟨g32, 0, none⟩)) (fun d e1 e2 => by cases e1; cases e2)]
          rw [Act.put_comm (((a.put (some 26) (.agg C1)).put (some 28) (.agg C2)).put (some 9) (.pointer (some ⟨g32, 0, none⟩))) (.pointer (some ⟨g26, 0, none⟩)) (.agg N1) (fun d e1 e2 => by cases e1; cases e2)]
          rw [Act.put_comm ((((a.put (some 26) (.agg C1)).put (some 28) (.agg C2)).put (some 9) (.pointer (some ⟨g32, 0, none⟩))).put (some 27) (.agg N1)) (.pointer (some ⟨g26, 0, none⟩)) (.agg N2) (fun d e1 e2 => by cases e1; cases e2)]
          rw [Act.put_comm ((a.put (some 26) (.agg C1)).put (some 28) (.agg C2)) (.pointer (some ⟨g32, 0, none⟩)) (.agg N1) (fun d e1 e2 => by cases e1; cases e2)]
          rw [Act.put_comm (((a.put (some 26) (.agg C1)).put (some 28) (.agg C2)).put (some 27) (.agg N1)) (.pointer (some ⟨g32, 0, none⟩)) (.agg N2) (fun d e1 e2 => by cases e1; cases e2)]
          exact h g32 g26 _ lg32 lg26 hne ((setRow_other _ _ _ _ hne).trans (setRow_heap _ _ _ _ _ _ ha34)) (setRow_heap _ _ _ _ _ _ ((setRow_other _ _ _ _ (Ne.symm hne)).trans hB34)) (below_setRow (below_setRow HB34 lg32 _) lg26 _)
end Go.Proofs.Wk
/- POSITION: sums of torsors, in the program. -/
namespace Go.Proofs.Wk
open Go.RowKit Mt Po

structure Tri (w W : World) (g1 g2 g3 : Nat) (o1 o2 o3 : Obj) : Prop where
  a : W.heap[g1]? = some o1
  b : W.heap[g2]? = some o2
  c : W.heap[g3]? = some o3
  w : Below w.heap.size w W
theorem Tri.later {w W W' : World} {g1 g2 g3 : Nat} {o1 o2 o3 : Obj} (h : Tri w W g1 g2 g3 o1 o2 o3) (hb : Below W.heap.size W W') : Tri w W' g1 g2 g3 o1 o2 o3 := ⟨keepD h.a hb, keepD h.b hb, keepD h.c hb, h.w.nx hb⟩
theorem Tri.new (w : World) (o1 o2 o3 : Array Value) (t1 t2 t3 : TypeId) : Tri w (((w.alloc (.cells o1 t1)).alloc (.cells o2 t2)).alloc (.cells o3 t3)) w.heap.size (w.heap.size + 1) (w.heap.size + 1 + 1) (.cells o1 t1 (0, 0)) (.cells o2 t2 (0, 0)) (.cells o3 t3 (0, 0)) :=
  ⟨keepD (heap_alloc_new w _) (bx2 _ _ _), keepD (nw2 w o1 o2 _ _) (below_al _ _), by
    have h := heap_alloc_new ((w.alloc (.cells o1 t1)).alloc (.cells o2 t2)) (.cells o3 t3)
    rw [World.size_alloc, World.size_alloc] at h
    exact h, bx3 w _ _ _⟩
theorem Tri.lt1 {w W : World} {g1 g2 g3 : Nat} {o1 o2 o3 : Obj} (h : Tri w W g1 g2 g3 o1 o2 o3) : g1 < W.heap.size := (Array.getElem?_eq_some_iff.1 h.a).1
theorem Tri.lt2 {w W : World} {g1 g2 g3 : Nat} {o1 o2 o3 : Obj} (h : Tri w W g1 g2 g3 o1 o2 o3) : g2 < W.heap.size := (Array.getElem?_eq_some_iff.1 h.b).1
theorem Tri.lt3 {w W : World} {g1 g2 g3 : Nat} {o1 o2 o3 : Obj} (h : Tri w W g1 g2 g3 o1 o2 o3) : g3 < W.heap.size := (Array.getElem?_eq_some_iff.1 h.c).1
theorem Tri.set {w W : World} {g1 g2 g3 : Nat} {o1 o2 o3 : Obj} (h : Tri w W g1 g2 g3 o1 o2 o3) {p : Addr} (v : Value) (h1 : g1 ≠ p.block) (h2 : g2 ≠ p.block) (h3 : g3 ≠ p.block) (h4 : w.heap.size ≤ p.block) : Tri w (W.setCell p v) g1 g2 g3 o1 o2 o3 :=
  ⟨(heap_setCell_other _ _ _ _ h1).trans h.a, (heap_setCell_other _ _ _ _ h2).trans h.b, (heap_setCell_other _ _ _ _ h3).trans h.c, h.w.cel h4 v⟩
def sumT (p q : TQ) : TQ := ⟨p.t0 + q.t0, p.t1 + q.t1, p.t2 + q.t2, p.w0 + q.w0, p.w1 + q.w1, p.w2 + q.w2⟩
theorem ttE_tq {p : TQ} (h : ShT p) : ttE (tqT p) = 0 := by
  have hk : ∀ k, k < 6 → rchk (rtoa (tqF p k)) = 0 := fun k hk => rchk_rtoa ((tqF_sz h hk).okq (by omega))
  have h0 : rchk (rtoa p.t0) = 0 := hk 0 (by omega)
  have h1 : rchk (rtoa p.t1) = 0 := hk 1 (by omega)
  have h2 : rchk (rtoa p.t2) = 0 := hk 2 (by omega)
  have h3 : rchk (rtoa p.w0) = 0 := hk 3 (by omega)
  have h4 : rchk (rtoa p.w1) = 0 := hk 4 (by omega)
  have h5 : rchk (rtoa p.w2) = 0 := hk 5 (by omega)
  show firstR [rtoa p.t0, rtoa p.t1, rtoa p.t2, rtoa p.w0, rtoa p.w1, rtoa p.w2] = 0
  simp only [firstR, h0, h1, h2, h3, h4, h5, if_true]
theorem tq_len {p : TQ} (h : ShT p) : ∀ l ∈ (tqT p).l, l.length ≤ 140737488355328 := by
  intro l hl
  simp only [TT.l, tqT, List.mem_cons, List.not_mem_nil, or_false] at hl
  rcases hl with rfl | rfl | rfl | rfl | rfl | rfl
  · exact tlen ((tqF_sz h (k := 0) (by omega)).okq (by omega))
  · exact tlen ((tqF_sz h (k := 1) (by omega)).okq (by omega))
  · exact tlen ((tqF_sz h (k := 2) (by omega)).okq (by omega))
  · exact tlen ((tqF_sz h (k := 3) (by omega)).okq (by omega))
  · exact tlen ((tqF_sz h (k := 4) (by omega)).okq (by omega))
  · exact tlen ((tqF_sz h (k := 5) (by omega)).okq (by omega))
set_option maxRecDepth 100000 in
set_option maxHeartbeats 4000000 in
theorem tadd_c (p q : TQ) (w : World) (hg : Good w) (hp : ShT p) (hq : ShT q) : Calls Tryz.prog 13 #[ttV (tqT p), ttV (tqT q)] w (Ret w (.tuple #[ttV (tqT (sumT p q)), .int .i64 0])) := by
  have HTC : Hid (∀ i, i < 2 → ∀ W, Below w.heap.size w W → Calls Tryz.prog 46 #[ttV (tA [tqT p, tqT q] i)] W (Ret W (.int .i64 0))) := Lib.hid (fun i hi W h => by
    rcases (by omega : i = 0 ∨ i = 1) with rfl | rfl
    · have := torCheck_c (tqT p) W (hg.later h) (tq_len hp)
      rwa [ttE_tq hp] at this
    · have := torCheck_c (tqT q) W (hg.later h) (tq_len hq)
      rwa [ttE_tq hq] at this)
  have HMP : Hid (∀ gx gy W, Below w.heap.size w W → W.heap[gx]? = some (.cells (ttC (tqT p)) 110 (0, 0)) → W.heap[gy]? = some (.cells (ttC (tqT q)) 110 (0, 0)) →
      Calls Tryz.prog 48 #[.func (.func 49) #[] #[.pointer (some ⟨gx, 0, none⟩), .pointer (some ⟨gy, 0, none⟩)]] W (Ret W (.tuple #[ttV (tqT (sumT p q)), .int .i64 0]))) := Lib.hid (fun gx gy W hW hx hy =>
    mapped_c (fun i => rtoa (tqF p i + tqF q i)) gx gy W fun i hi W' h' =>
      add1_c (tqF p i) (tqF q i) i gx gy W' (hg.later (hW.nx h')) hi (q6_cell (q := tqF p) (keepD hx h') hi) (q6_cell (q := tqF q) (keepD hy h') hi) (tqF_sz hp hi) (tqF_sz hq hi))
  have HN1 := Lib.hid (fun W => numbers_c (tqT p) W)
  have HN2 := Lib.hid (fun W => numbers_c (tqT q) W)
  have hJ := Tri.new w (ttC (tqT p)) (ttC (tqT q)) z6C 38 38 38
  generalize tqT (sumT p q) = ts at *
  generalize tqT p = ta at *
  generalize tqT q = tb at *
  clear hg hp hq
  have HG4 : Hid (w.heap.size ≤ w.heap.size + 1 + 1) := Lib.hid (by omega)
  go_enter Tryz.func13, Tryz.ntmps13
  go_upto_region 1 with fail
  generalize hW0 : ((w.alloc (.cells (ttC ta) 38)).alloc (.cells (ttC tb) 38)).alloc (.cells z6C 38) = W0 at *
  clear hW0
  generalize w.heap.size + 1 + 1 = g4 at *
  generalize w.heap.size + 1 = g3 at *
  obtain ⟨a0, a1, a2, a3, a4, a5⟩ := c6row hJ.a
  obtain ⟨b0, b1, b2, b3, b4, b5⟩ := c6row hJ.b
  have hal : Below W0.heap.size W0 (W0.alloc (.cells #[.string ⟨ta.a0.toArray⟩, .string ⟨ta.a1.toArray⟩, .string ⟨ta.a2.toArray⟩, .string ⟨ta.b0.toArray⟩, .string ⟨ta.b1.toArray⟩, .string ⟨ta.b2.toArray⟩, .string ⟨tb.a0.toArray⟩, .string ⟨tb.a1.toArray⟩, .string ⟨tb.a2.toArray⟩, .string ⟨tb.b0.toArray⟩, .string ⟨tb.b1.toArray⟩, .string ⟨tb.b2.toArray⟩] 38)) := below_al W0 _
  have hT : RX (W0.alloc (.cells #[.string ⟨ta.a0.toArray⟩, .string ⟨ta.a1.toArray⟩, .string ⟨ta.a2.toArray⟩, .string ⟨ta.b0.toArray⟩, .string ⟨ta.b1.toArray⟩, .string ⟨ta.b2.toArray⟩, .string ⟨tb.a0.toArray⟩, .string ⟨tb.a1.toArray⟩, .string ⟨tb.a2.toArray⟩, .string ⟨tb.b0.toArray⟩, .string ⟨tb.b1.toArray⟩, .string ⟨tb.b2.toArray⟩] 38)) W0.heap.size 0 [ta, tb] := RX.lit W0 [ta, tb] 38
  have hTl : W0.heap.size < (W0.alloc (.cells #[.string ⟨ta.a0.toArray⟩, .string ⟨ta.a1.toArray⟩, .string ⟨ta.a2.toArray⟩, .string ⟨ta.b0.toArray⟩, .string ⟨ta.b1.toArray⟩, .string ⟨ta.b2.toArray⟩, .string ⟨tb.a0.toArray⟩, .string ⟨tb.a1.toArray⟩, .string ⟨tb.a2.toArray⟩, .string ⟨tb.b0.toArray⟩, .string ⟨tb.b1.toArray⟩, .string ⟨tb.b2.toArray⟩] 38)).heap.size := alloc_lt W0 _
  go_upto_region 2 with fail
  have HJ1 := Lib.hid (hJ.later hal)
  clear a0 a1 a2 a3 a4 a5 b0 b1 b2 b3 b4 b5 hJ hal
  generalize W0.alloc (.cells #[.string ⟨ta.a0.toArray⟩, .string ⟨ta.a1.toArray⟩, .string ⟨ta.a2.toArray⟩, .string ⟨ta.b0.toArray⟩, .string ⟨ta.b1.toArray⟩, .string ⟨ta.b2.toArray⟩, .string ⟨tb.a0.toArray⟩, .string ⟨tb.a1.toArray⟩, .string ⟨tb.a2.toArray⟩, .string ⟨tb.b0.toArray⟩, .string ⟨tb.b1.toArray⟩, .string ⟨tb.b2.toArray⟩] 38) = W1 at *
  generalize W0.heap.size = gb at *
  have HF : Hid (∀ W, Below W1.heap.size W1 W → ∀ i, i < 2 → (W.cell? ⟨gb, i * 6, none⟩ = some (.string ⟨(tA [ta, tb] i).a0.toArray⟩) ∧ W.cell? ⟨gb, i * 6 + 1, none⟩ = some (.string ⟨(tA [ta, tb] i).a1.toArray⟩) ∧ W.cell? ⟨gb, i * 6 + 2, none⟩ = some (.string ⟨(tA [ta, tb] i).a2.toArray⟩) ∧
      W.cell? ⟨gb, i * 6 + 3, none⟩ = some (.string ⟨(tA [ta, tb] i).b0.toArray⟩) ∧ W.cell? ⟨gb, i * 6 + 4, none⟩ = some (.string ⟨(tA [ta, tb] i).b1.toArray⟩) ∧ W.cell? ⟨gb, i * 6 + 5, none⟩ = some (.string ⟨(tA [ta, tb] i).b2.toArray⟩))) := Lib.hid (fun W h i hi => by
    have := (hT.later h hTl).tt (i := i) hi
    rwa [Nat.zero_add] at this)
  clear hT hTl
  generalize tA [ta, tb] = tF at *
  go_wp2_with fail
  go_loopw [15] (fun si wr => ∃ i : Nat, si = .int .i64 (i : Int) ∧ i ≤ 2 ∧ Hid (Below W1.heap.size W1 wr)) (fun si _ => 2 - (intOf si).toNat)
  case atStart => exact ⟨0, rfl, Nat.zero_le _, Below.refl _ _⟩
  case round =>
  obtain ⟨i, rfl, hi, hB⟩ := hrel
  by_cases hlt : i < 2
  · obtain ⟨k0, k1, k2, k3, k4, k5⟩ := HF.out _ hB.out i hlt
    have HC1 := Lib.hid (HTC.out i hlt)
    have HW1 := Lib.hid HJ1.out.w
    clear HF HTC HMP HN1 HN2 HJ1
    generalize tF i = t at *
    obtain ⟨xa, xb, xc, xd, xe, xf⟩ := t
    simp only at k0 k1 k2 k3 k4 k5 HC1
    have j0 : (i : Int) < 2 := by omega
    have j1 : (0 : Int) ≤ (i : Int) := by omega
    have hal := below_al wr (.cells #[.string ⟨xa.toArray⟩, .string ⟨xb.toArray⟩, .string ⟨xc.toArray⟩, .string ⟨xd.toArray⟩, .string ⟨xe.toArray⟩, .string ⟨xf.toArray⟩] 38)
    have HB1 := Lib.hid (hB.out.nx hal)
    have hnew := heap_alloc_new wr (.cells #[.string ⟨xa.toArray⟩, .string ⟨xb.toArray⟩, .string ⟨xc.toArray⟩, .string ⟨xd.toArray⟩, .string ⟨xe.toArray⟩, .string ⟨xf.toArray⟩] 38)
    go_upto_region 4 with fail
    generalize wr.alloc (.cells #[.string ⟨xa.toArray⟩, .string ⟨xb.toArray⟩, .string ⟨xc.toArray⟩, .string ⟨xd.toArray⟩, .string ⟨xe.toArray⟩, .string ⟨xf.toArray⟩] 38) = W2 at *
    obtain ⟨p0, p1, p2, p3, p4, p5⟩ := c6row hnew
    go_wp2_with fail
    ((with_reducible refine (HC1.out _ (HW1.out.nx HB1.out)).mono ?_); rintro e w2 ⟨rfl, hb2⟩)
    have HB2 := Lib.hid (HB1.out.nx hb2)
    clear hb2 hal k0 k1 k2 k3 k4 k5 p0 p1 p2 p3 p4 p5 hnew hB HB1 HC1
    go_wp2
    go_roundw
    case rel => exact ⟨i + 1, by go_num, by omega, HB2.out⟩
    case measure => simp [intOf]; omega
  · obtain rfl : i = 2 := by omega
    have HJ2 := Lib.hid (HJ1.out.later hB.out)
    clear HF HTC HJ1 hB
    go_upto_region 8 with fail
    have hs1 : (Tryz.prog.info? 38).map (·.size) = some (ttC ta).size := by kernel_rfl
    have hs2 : (Tryz.prog.info? 38).map (·.size) = some (ttC tb).size := by kernel_rfl
    refine wp_region_noPanic ?_
    refine addR8 (by rfl) (fun _ _ _ _ _ h => h) w.heap.size g3 (by rfl) (by rfl) (ttC ta) (ttC tb) (ttC ta) (ttC tb) HJ2.out.a HJ2.out.b (fun W h => run_loadVar_row W _ _ _ _ _ _ h Tryz.underlying38 rfl hs1) (fun W h => run_loadVar_row W _ _ _ _ _ _ h Tryz.underlying38 rfl hs2)
      (fun W => HN1.out W) (fun W => HN2.out W) (by kernel_rfl) (by kernel_rfl) (by rfl) (by rfl) (by kernel_rfl) (by kernel_rfl) (fun g5 g6 W k5 k6 k56 K5 K6 KB => NoPanic.normal ?_)
    simp only [Act.put, List.setIfInBounds_toArray, List.set_cons_zero, List.set_cons_succ]
    have HJ3 := Lib.hid (HJ2.out.later KB)
    have HM1 := Lib.hid (HMP.out g5 g6 W HJ3.out.w K5 K6)
    clear HJ2 HMP HN1 HN2 K5 K6 KB k5 k6 k56
    go_wp2_with fail
    ((with_reducible refine HM1.out.mono ?_); rintro e w2 ⟨rfl, hb2⟩)
    have HJ4 := Lib.hid (HJ3.out.later hb2)
    have ha := HJ4.out.c
    have hw := HJ4.out.w
    have hg4 := HG4.out
    clear HJ3 HM1 hb2 HJ4
    obtain ⟨r0, r1, r2, r3, r4, r5⟩ := c6row ha
    have hf := fun j => free_row ha j
    go_wp2
    refine bodyPost_ret (res_ct rfl rfl (s6row ha) Tryz.underlying38 rfl (by kernel_rfl) rfl) rfl ?_
    exact ⟨rfl, (((((hw.cel (p := ⟨g4, 0, none⟩) hg4 _).cel (p := ⟨g4, 1, none⟩) hg4 _).cel (p := ⟨g4, 2, none⟩) hg4 _).cel (p := ⟨g4, 3, none⟩) hg4 _).cel (p := ⟨g4, 4, none⟩) hg4 _).cel (p := ⟨g4, 5, none⟩) hg4 _⟩
end Go.Proofs.Wk
/- POSITION, IN THE LAW: a moved point; a case and a torsor that are copied at once. -/
namespace Go.Proofs.Wk
open Go.RowKit Mt Po

set_option maxRecDepth 100000 in
set_option maxHeartbeats 2000000 in
theorem copyM {id : Nat} {Q : Exit → Act → World → Prop} {a : Act} {w : World} (hsz : a.tmps.size = 166) (hQ : ∀ c (a : Act) d v w, Q (.panic c) (a.put d v) w → Q (.panic c) a w) (g1 g2 : Nat)
    (h1 : a.eval (.tmp 3) = .pointer (some ⟨g1, 0, none⟩)) (h2 : a.eval (.tmp 4) = .pointer (some ⟨g2, 0, none⟩)) (C1 C2 Z1 Z2 : Array Value)
    (r1 : w.heap[g1]? = some (.cells C1 34 (0, 0))) (r2 : w.heap[g2]? = some (.cells C2 38 (0, 0))) (y1 : ∀ W : World, W.heap[g1]? = some (.cells C1 34 (0, 0)) → (loadVar 34 ⟨g1, 0, none⟩).run Tryz.prog W = .ok (.agg C1) W) (y2 : ∀ W : World, W.heap[g2]? = some (.cells C2 38 (0, 0)) → (loadVar 38 ⟨g2, 0, none⟩).run Tryz.prog W = .ok (.agg C2) W)
    (hi1 : (Tryz.prog.info? 34).map (·.size) = some C1.size) (hi2 : (Tryz.prog.info? 38).map (·.size) = some C2.size) (hz1 : Z1.size = C1.size) (hz2 : Z2.size = C2.size) (o1 : C1.all (·.oneCell') = true) (o2 : C2.all (·.oneCell') = true)
    (A2 : ∀ (o : Oper) (_ : o.op = .alloc 34) {ρ : Operand → Value} (W : World), (execOp ρ o).run Tryz.prog W = .ok (.value (.pointer (some ⟨W.heap.size, 0, none⟩))) (W.alloc (.cells Z1 34)))
    (A3 : ∀ (o : Oper) (_ : o.op = .alloc 38) {ρ : Operand → Value} (W : World), (execOp ρ o).run Tryz.prog W = .ok (.value (.pointer (some ⟨W.heap.size, 0, none⟩))) (W.alloc (.cells Z2 38)))
    (h : ∀ g5 g6 W, w.heap.size ≤ g5 → w.heap.size ≤ g6 → g5 ≠ g6 → W.heap[g5]? = some (.cells C1 34 (0, 0)) → W.heap[g6]? = some (.cells C2 38 (0, 0)) → Below w.heap.size w W →
      Q .normal ((((a.put (some 37) (.agg C1)).put (some 38) (.agg C2)).put (some 8) (.pointer (some ⟨g5, 0, none⟩))).put (some 9) (.pointer (some ⟨g6, 0, none⟩))) W) :
    (Code.region id #[{ dst := some 37, op := .load 34 (.tmp 3), type := 34, pos := "law.go:129", after := #[], guard := none },
    { dst := some 38, op := .load 38 (.tmp 4), type := 38, pos := "law.go:129", after := #[{ on := 4, ground := .gcOnly .lateStores }], guard := none },
    { dst := some 8, op := .alloc 34, type := 0, pos := "law.go:129", after := #[], guard := none },
    { dst := some 9, op := .alloc 38, type := 0, pos := "law.go:129", after := #[], guard := none },
    { dst := none, op := .store 34 (.tmp 8) (.tmp 37), type := 0, pos := "law.go:129", after := #[{ on := 2, ground := .data }, { on := 0, ground := .data }, { on := 0, ground := .phase }, { on := 1, ground := .textOnly .lateStores }, { on := 2, ground := .phase }, { on := 3, ground := .phase }], guard := none },
    { dst := none, op := .store 38 (.tmp 9) (.tmp 38), type := 0, pos := "law.go:129", after := #[{ on := 3, ground := .data }, { on := 1, ground := .data }, { on := 4, ground := .chain }, { on := 0, ground := .phase }, { on := 1, ground := .phase }, { on := 2, ground := .phase }, { on := 3, ground := .phase }, { on := 4, ground := .phase }], guard := none }] true).wp Tryz.prog Q a w := by
  have l1 : g1 < w.heap.size := (Array.getElem?_eq_some_iff.1 r1).1
  have l2 : g2 < w.heap.size := (Array.getElem?_eq_some_iff.1 r2).1
  have hx2 : (a.put (some 37) (.agg C1)).eval (.tmp 4) = .pointer (some ⟨g2, 0, none⟩) := by rw [← h2]; simp [Act.eval, Act.put]
  refine wp_region_held_drew (S := (fun W => W.heap[g1]? = some (.cells C1 34 (0, 0)) ∧ W.heap[g2]? = some (.cells C2 38 (0, 0)))) (by kernel_rfl) ⟨r1, r2⟩ (fun hHeld => ?_)
  refine wpAnyH_take (i := 0) (oi := { dst := some 37, op := .load 34 (.tmp 3), type := 34, pos := "law.go:129", after := #[], guard := none }) (v := .agg C1) rfl (by kernel_rfl) (by kernel_rfl) (by kernel_rfl) (fun c a w => hQ c a _ _ w) (yieldsIf_load_row (by rfl) 34 (.tmp 3) rfl g1 h1 C1 (fun W hW => y1 W hW.1)) hHeld ?_
  show wpAnyH _ _ _ _ _ 5 #[true, false, false, false, false, false] (a.put (some 37) (.agg C1)) _
  refine wpAnyH_take (i := 1) (oi := { dst := some 38, op := .load 38 (.tmp 4), type := 38, pos := "law.go:129", after := #[{ on := 4, ground := .gcOnly .lateStores }], guard := none }) (v := .agg C2) rfl (by kernel_rfl) (by kernel_rfl) (by kernel_rfl) (fun c a w => hQ c a _ _ w) (yieldsIf_load_row (by rfl) 38 (.tmp 4) rfl g2 hx2 C2 (fun W hW => y2 W hW.2)) hHeld ?_
  show wpAnyH _ _ _ _ _ 4 #[true, true, false, false, false, false] ((a.put (some 37) (.agg C1)).put (some 38) (.agg C2)) _
  refine wpAnyH_ready (rs := [2, 3]) (by kernel_rfl) (by simp) ?_
  refine AllReadyH.cons (o := { dst := some 8, op := .alloc 34, type := 0, pos := "law.go:129", after := #[], guard := none }) rfl (fun K hK => ?_) (AllReadyH.cons (o := { dst := some 9, op := .alloc 38, type := 0, pos := "law.go:129", after := #[], guard := none }) rfl (fun K hK => ?_) AllReadyH.nil)
  · rw [if_pos (by rfl)]
    refine wp_run_val (u := .pointer (some ⟨w.heap.size, 0, none⟩)) (w' := (w.drew.alloc (.cells Z1 34))) (A2 _ rfl _) ?_
    refine hK.out _ _ ⟨keepD hHeld.1 (below_al _ _), keepD hHeld.2 (below_al _ _)⟩ (fun hHeld2 => ?_)
    clear hK
    show wpAnyH _ _ _ _ _ 3 #[true, true, true, false, false, false] (((a.put (some 37) (.agg C1)).put (some 38) (.agg C2)).put (some 8) (.pointer (some ⟨w.heap.size, 0, none⟩))) _
    refine wpAnyH_ready (rs := [3]) (by kernel_rfl) (by simp) ?_
    refine AllReadyH.cons (o := { dst := some 9, op := .alloc 38, type := 0, pos := "law.go:129", after := #[], guard := none }) rfl (fun K hK => ?_) AllReadyH.nil
    rw [if_pos (by rfl)]
    refine wp_run_val (u := .pointer (some ⟨w.heap.size + 1, 0, none⟩)) (w' := ((w.drew.alloc (.cells Z1 34)).alloc (.cells Z2 38))) (by have := A3 { dst := some 9, op := .alloc 38, type := 0, pos := "law.go:129", after := #[], guard := none } rfl (ρ := (((a.put (some 37) (.agg C1)).put (some 38) (.agg C2)).put (some 8) (.pointer (some ⟨w.heap.size, 0, none⟩))).eval) (w.drew.alloc (.cells Z1 34)); rwa [show (w.drew.alloc (.cells Z1 34)).heap.size = w.heap.size + 1 from World.size_alloc _ _] at this) ?_
    refine hK.out _ _ ⟨keepD hHeld2.1 (below_al _ _), keepD hHeld2.2 (below_al _ _)⟩ (fun hHeld3 => ?_)
    clear hK hHeld2
    show wpAnyH _ _ _ _ _ 2 #[true, true, true, true, false, false] ((((a.put (some 37) (.agg C1)).put (some 38) (.agg C2)).put (some 8) (.pointer (some ⟨w.heap.size, 0, none⟩))).put (some 9) (.pointer (some ⟨(w.heap.size + 1), 0, none⟩))) _
    have HN : ((w.drew.alloc (.cells Z1 34)).alloc (.cells Z2 38)).heap[w.heap.size + 1]? = some (.cells Z2 38 (0, 0)) := nw2 w.drew _ _ _ _
    have HM : ((w.drew.alloc (.cells Z1 34)).alloc (.cells Z2 38)).heap[w.heap.size]? = some (.cells Z1 34 (0, 0)) := keepD (heap_alloc_new w.drew _) (below_al _ _)
    have HB : Below w.heap.size w ((w.drew.alloc (.cells Z1 34)).alloc (.cells Z2 38)) := ((Below.refl _ _).drew.nx (below_al _ _)).nx (below_al _ _)
    generalize ((w.drew.alloc (.cells Z1 34)).alloc (.cells Z2 38)) = W2 at *
    refine wpAnyH_ready (rs := [4]) (by kernel_rfl) (by simp) ?_
    refine AllReadyH.cons (o := { dst := none, op := .store 34 (.tmp 8) (.tmp 37), type := 0, pos := "law.go:129", after := #[{ on := 2, ground := .data }, { on := 0, ground := .data }, { on := 0, ground := .phase }, { on := 1, ground := .textOnly .lateStores }, { on := 2, ground := .phase }, { on := 3, ground := .phase }], guard := none }) rfl (fun K hK => ?_) AllReadyH.nil
    rw [if_pos (by rfl)]
    refine wp_store_rowN rfl 34 (.tmp 8) (.tmp 37) rfl w.heap.size C1 (by simp [Act.eval, Act.put, hsz]) (by simp [Act.eval, Act.put, hsz]) 34 Z1 HM hi1 hz1 o1 ?_
    refine hK.out _ _ ⟨(setRow_other _ _ _ _ (by omega)).trans hHeld3.1, (setRow_other _ _ _ _ (by omega)).trans hHeld3.2⟩ (fun hHeld4 => ?_)
    clear hK hHeld3
    show wpAnyH _ _ _ _ _ 1 #[true, true, true, true, true, false] ((((a.put (some 37) (.agg C1)).put (some 38) (.agg C2)).put (some 8) (.pointer (some ⟨w.heap.size, 0, none⟩))).put (some 9) (.pointer (some ⟨(w.heap.size + 1), 0, none⟩))) _
    refine wpAnyH_ready (rs := [5]) (by kernel_rfl) (by simp) ?_
    refine AllReadyH.cons (o := { dst := none, op := .store 38 (.tmp 9) (.tmp 38), type := 0, pos := "law.go:129", after := #[{ on := 3, ground := .data }, { on := 1, ground := .data }, { on := 4, ground := .chain }, { on := 0, ground := .phase }, { on := 1, ground := .phase }, { on := 2, ground := .phase }, { on := 3, ground := .phase }, { on := 4, ground := .phase }], guard := none }) rfl (fun K hK => ?_) AllReadyH.nil
    rw [if_pos (by rfl)]
    refine wp_store_rowN rfl 38 (.tmp 9) (.tmp 38) rfl (w.heap.size + 1) C2 (by simp [Act.eval, Act.put, hsz]) (by simp [Act.eval, Act.put, hsz]) 38 Z2 ((setRow_other _ _ _ _ (by omega)).trans HN) hi2 hz2 o2 ?_
    refine hK.out _ _ ⟨(setRow_other _ _ _ _ (by omega)).trans hHeld4.1, (setRow_other _ _ _ _ (by omega)).trans hHeld4.2⟩ (fun hHeld5 => ?_)
    clear hK hHeld4 hHeld5
    refine wpAnyH_done (by kernel_rfl) ?_ _
    have HF := h w.heap.size (w.heap.size + 1) ((W2.setRow w.heap.size C1).setRow (w.heap.size + 1) C2) (by omega) (by omega) (by omega) ((setRow_other _ _ _ _ (by omega)).trans (setRow_heap _ _ _ _ _ _ HM)) (setRow_heap _ _ _ _ _ _ ((setRow_other _ _ _ _ (by omega)).trans HN)) (below_setRow (below_setRow HB (by omega) _) (by omega) _)
    exact HF
  · rw [if_pos (by rfl)]
    refine wp_run_val (u := .pointer (some ⟨w.heap.size, 0, none⟩)) (w' := (w.drew.alloc (.cells Z2 38))) (A3 _ rfl _) ?_
    refine hK.out _ _ ⟨keepD hHeld.1 (below_al _ _), keepD hHeld.2 (below_al _ _)⟩ (fun hHeld2 => ?_)
    clear hK
    show wpAnyH _ _ _ _ _ 3 #[true, true, false, true, false, false] (((a.put (some 37) (.agg C1)).put (some 38) (.agg C2)).put (some 9) (.pointer (some ⟨w.heap.size, 0, none⟩))) _
    refine wpAnyH_ready (rs := [2]) (by kernel_rfl) (by simp) ?_
    refine AllReadyH.cons (o := { dst := some 8, op := .alloc 34, type := 0, pos := "law.go:129", after := #[], guard := none }) rfl (fun K hK => ?_) AllReadyH.nil
    rw [if_pos (by rfl)]
    refine wp_run_val (u := .pointer (some ⟨w.heap.size + 1, 0, none⟩)) (w' := ((w.drew.alloc (.cells Z2 38)).alloc (.cells Z1 34))) (by have := A2 { dst := some 8, op := .alloc 34, type := 0, pos := "law.go:129", after := #[], guard := none } rfl (ρ := (((a.put (some 37) (.agg C1)).put (some 38) (.agg C2)).put (some 9) (.pointer (some ⟨w.heap.size, 0, none⟩))).eval) (w.drew.alloc (.cells Z2 38)); rwa [show (w.drew.alloc (.cells Z2 38)).heap.size = w.heap.size + 1 from World.size_alloc _ _] at this) ?_
    refine hK.out _ _ ⟨keepD hHeld2.1 (below_al _ _), keepD hHeld2.2 (below_al _ _)⟩ (fun hHeld3 => ?_)
    clear hK hHeld2
    show wpAnyH _ _ _ _ _ 2 #[true, true, true, true, false, false] ((((a.put (some 37) (.agg C1)).put (some 38) (.agg C2)).put (some 9) (.pointer (some ⟨w.heap.size, 0, none⟩))).put (some 8) (.pointer (some ⟨(w.heap.size + 1), 0, none⟩))) _
    have HN : ((w.drew.alloc (.cells Z2 38)).alloc (.cells Z1 34)).heap[w.heap.size + 1]? = some (.cells Z1 34 (0, 0)) := nw2 w.drew _ _ _ _
    have HM : ((w.drew.alloc (.cells Z2 38)).alloc (.cells Z1 34)).heap[w.heap.size]? = some (.cells Z2 38 (0, 0)) := keepD (heap_alloc_new w.drew _) (below_al _ _)
    have HB : Below w.heap.size w ((w.drew.alloc (.cells Z2 38)).alloc (.cells Z1 34)) := ((Below.refl _ _).drew.nx (below_al _ _)).nx (below_al _ _)
    generalize ((w.drew.alloc (.cells Z2 38)).alloc (.cells Z1 34)) = W2 at *
    refine wpAnyH_ready (rs := [4]) (by kernel_rfl) (by simp) ?_
    refine AllReadyH.cons (o := { dst := none, op := .store 34 (.tmp 8) (.tmp 37), type := 0, pos := "law.go:129", after := #[{ on := 2, ground := .data }, { on := 0, ground := .data }, { on := 0, ground := .phase }, { on := 1, ground := .textOnly .lateStores }, { on := 2, ground := .phase }, { on := 3, ground := .phase }], guard := none }) rfl (fun K hK => ?_) AllReadyH.nil
    rw [if_pos (by rfl)]
    refine wp_store_rowN rfl 34 (.tmp 8) (.tmp 37) rfl (w.heap.size + 1) C1 (by simp [Act.eval, Act.put, hsz]) (by simp [Act.eval, Act.put, hsz]) 34 Z1 HN hi1 hz1 o1 ?_
    refine hK.out _ _ ⟨(setRow_other _ _ _ _ (by omega)).trans hHeld3.1, (setRow_other _ _ _ _ (by omega)).trans hHeld3.2⟩ (fun hHeld4 => ?_)
    clear hK hHeld3
    show wpAnyH _ _ _ _ _ 1 #[true, true, true, true, true, false] ((((a.put (some 37) (.agg C1)).put (some 38) (.agg C2)).put (some 9) (.pointer (some ⟨w.heap.size, 0, none⟩))).put (some 8) (.pointer (some ⟨(w.heap.size + 1), 0, none⟩))) _
    refine wpAnyH_ready (rs := [5]) (by kernel_rfl) (by simp) ?_
    refine AllReadyH.cons (o := { dst := none, op := .store 38 (.tmp 9) (.tmp 38), type := 0, pos := "law.go:129", after := #[{ on := 3, ground := .data }, { on := 1, ground := .data }, { on := 4, ground := .chain }, { on := 0, ground := .phase }, { on := 1, ground := .phase }, { on := 2, ground := .phase }, { on := 3, ground := .phase }, { on := 4, ground := .phase }], guard := none }) rfl (fun K hK => ?_) AllReadyH.nil
    rw [if_pos (by rfl)]
    refine wp_store_rowN rfl 38 (.tmp 9) (.tmp 38) rfl w.heap.size C2 (by simp [Act.eval, Act.put, hsz]) (by simp [Act.eval, Act.put, hsz]) 38 Z2 ((setRow_other _ _ _ _ (by omega)).trans HM) hi2 hz2 o2 ?_
    refine hK.out _ _ ⟨(setRow_other _ _ _ _ (by omega)).trans hHeld4.1, (setRow_other _ _ _ _ (by omega)).trans hHeld4.2⟩ (fun hHeld5 => ?_)
    clear hK hHeld4 hHeld5
    refine wpAnyH_done (by kernel_rfl) ?_ _
    have HF := h (w.heap.size + 1) w.heap.size ((W2.setRow (w.heap.size + 1) C1).setRow w.heap.size C2) (by omega) (by omega) (by omega) ((setRow_other _ _ _ _ (by omega)).trans (setRow_heap _ _ _ _ _ _ HN)) (setRow_heap _ _ _ _ _ _ ((setRow_other _ _ _ _ (by omega)).trans HM)) (below_setRow (below_setRow HB (by omega) _) (by omega) _)
    rwa [Act.put_comm ((a.put (some 37) (.agg C1)).put (some 38) (.agg C2)) _ _ (fun d e1 e2 => by cases e1; cases e2)] at HF
set_option maxRecDepth 100000 in
set_option maxHeartbeats 2000000 in
theorem moves1_c (p b : Sp) (gb : Nat) (w : World) (hp : InP p) (hb : InP b) (hr : w.heap[gb]? = some (.cells #[.int .i64 b.x, .int .i64 b.y, .int .i64 b.z] 23 (0, 0))) :
    Calls Tryz.prog 10 #[spV p, .pointer (some ⟨gb, 0, none⟩)] w (Ret w (spV (addP p b))) := by
  obtain ⟨x, y, z⟩ := p
  obtain ⟨bx, by', bz⟩ := b
  obtain ⟨⟨x0, x1⟩, ⟨y0, y1⟩, ⟨z0, z1⟩⟩ := hp
  obtain ⟨⟨u0, u1⟩, ⟨v0, v1⟩, ⟨t0, t1⟩⟩ := hb
  simp only at x0 x1 y0 y1 z0 z1 u0 u1 v0 v1 t0 t1 hr
  have e1 : IntKind.i64.wrap (x + bx) = x + bx := IntWalk.i64_in _ (by omega)
  have e2 : IntKind.i64.wrap (y + by') = y + by' := IntWalk.i64_in _ (by omega)
  have e3 : IntKind.i64.wrap (z + bz) = z + bz := IntWalk.i64_in _ (by omega)
  have hlt : gb < w.heap.size := (Array.getElem?_eq_some_iff.1 hr).1
  obtain ⟨k0, k1, k2⟩ := c3row hr
  have hn : w.heap.size ≠ gb := by omega
  have hn2 : w.heap.size + 1 ≠ gb := by omega
  obtain ⟨l0, l1, l2⟩ := c3row (keepD hr (bx2 w (.cells #[.int .i64 x, .int .i64 y, .int .i64 z] 23) (.cells #[.int .i64 0, .int .i64 0, .int .i64 0] 23)))
  clear x0 x1 y0 y1 z0 z1 u0 u1 v0 v1 t0 t1 hr hlt
  show Calls _ _ _ _ (Ret w (spV ⟨x + bx, y + by', z + bz⟩))
  go_enter Tryz.func10, Tryz.ntmps10
  go_wp2
  refine bodyPost_ret (results_cell_row rfl _ _ (w.heap.size + 1) 23 #[.int .i64 (x + bx), .int .i64 (y + by'), .int .i64 (z + bz)] (0, 0) _ (by kernel_rfl) (nw2 w _ _ _ _) Tryz.underlying23 rfl (by kernel_rfl)) rfl ?_
  exact ⟨rfl, bx2 w _ _⟩
end Go.Proofs.Wk
/- POSITION, IN THE LAW Moves: what the sums and the deviations are. -/
namespace Go.Proofs.Wk
open Go.RowKit Mt Po

theorem ShT.shift {b : Sp} (hb : InP b) : ShT ⟨(b.x : Rat), (b.y : Rat), (b.z : Rat), 0, 0, 0⟩ := by
  obtain ⟨h1, h2, h3⟩ := hb
  have z : szV 0 25 0 := szV_zero.mono (by omega) (by omega)
  have f : ∀ {n : Int}, -100000 ≤ n ∧ n ≤ 100000 → szV (n : Rat) 25 0 := fun {n} h => by
    have := szV_co h
    exact ⟨Nat.le_trans this.1 (by omega), Nat.le_trans this.2 (by omega)⟩
  exact ⟨f h1, f h2, f h3, z, z, z⟩
theorem sum_shift (t : TQ) (b : Sp) : sumT t ⟨(b.x : Rat), (b.y : Rat), (b.z : Rat), 0, 0, 0⟩ = addT t b := by
  unfold sumT addT
  simp only [Rat.add_zero]
theorem add_moves (t : TQ) (b : Sp) (w : World) (hg : Good w) (ht : ShT t) (hb : InP b) :
    Calls Tryz.prog 13 #[ttV (tqT t), ttV ⟨rtoa (b.x : Rat), rtoa (b.y : Rat), rtoa (b.z : Rat), [48], [48], [48]⟩] w (Ret w (.tuple #[ttV (tqT (addT t b)), .int .i64 0])) := by
  have := tadd_c t ⟨(b.x : Rat), (b.y : Rat), (b.z : Rat), 0, 0, 0⟩ w hg ht (ShT.shift hb)
  rw [sum_shift] at this
  have e : tqT ⟨(b.x : Rat), (b.y : Rat), (b.z : Rat), 0, 0, 0⟩ = ⟨rtoa (b.x : Rat), rtoa (b.y : Rat), rtoa (b.z : Rat), [48], [48], [48]⟩ := by
    unfold tqT
    simp only [rtoa_zero]
  rwa [e] at this
/-- A case whose feature is moved. -/
def movC (c : Ca) (b : Sp) : Ca := ⟨{ c.f with pos := addP c.f.pos b }, c.x, c.b⟩
theorem dv_shift (c : Ca) (b : Sp) (t : TQ) (p : Sp) : dvC (movC c b) (addT t b) p = dvC c t p := devs_shift _ _ _ _ _ _
theorem dv_still (c : Ca) (b : Sp) (t : TQ) (p : Sp) : dvC (movC c b) (still t) (addP p b) = dvC c (still t) p := devs_still _ _ _ _ _ _
theorem at_map {ls : List Sp} (b : Sp) {i : Nat} (hi : i < ls.length) : Po.at_ (ls.map fun p => addP p b) i = addP (Po.at_ ls i) b := by
  rw [Po.at_get (by rw [List.length_map]; exact hi), Po.at_get hi, List.getElem_map]
theorem tq_still (t : TQ) : tqT (still t) = ⟨rtoa t.t0, rtoa t.t1, rtoa t.t2, [48], [48], [48]⟩ := by
  unfold tqT still
  simp only [rtoa_zero]
theorem ShT.still {t : TQ} (h : ShT t) : ShT (Po.still t) := by
  have z : szV 0 25 0 := szV_zero.mono (by omega) (by omega)
  exact ⟨h.t0, h.t1, h.t2, z, z, z⟩
theorem RtC.still {c : Ca} {t : TQ} {ds : List Dt} {ls : List Sp} (h : RtC c t ds ls) : RtC c (Po.still t) ds ls := ⟨h.hc, h.hp, h.ht.still, ttE_tq h.ht.still, tq_len h.ht.still⟩
theorem movC_S {w : World} {c : Ca} {fv dv sv : Value} {ds : List Dt} {ls : List Sp} (S : CaS w c fv dv sv ds ls) (b : Sp) : CaS w (movC c b) fv dv sv ds ls := ⟨S.fr, S.dt, S.sp, S.ln, S.nm⟩
/-- With the moved points in another slice. -/
theorem movC_SP {w : World} {c : Ca} {fv dv sv sw : Value} {ds : List Dt} {ls : List Sp} (S : CaS w c fv dv sv ds ls) (b : Sp) {qs : List Sp} (Q : SlX w sw qs) (hn : qs.length ≤ 140737488355328) : CaS w (movC c b) fv dv sw ds qs := ⟨S.fr, S.dt, Q, hn, S.nm⟩
/-- The four deviations of a point, two and two alike. -/
theorem moves_four {c : Ca} {fv dv sv sw : Value} {t : TQ} {b : Sp} {ds : List Dt} {ls : List Sp} {w : World} (hg : Good w) (S : CaS w c fv dv sv ds ls) (Q : SlX w sw (ls.map fun p => addP p b)) (R : RtC c t ds ls) (hR : RtC (movC c b) (addT t b) ds ls) (hM : RtC (movC c b) (Po.still t) ds (ls.map fun p => addP p b)) (i : Nat) (hi : i < ls.length) :
    ∃ L M : List Txt, 0 < L.length ∧ L.length ≤ 3 ∧ M.length ≤ 3 ∧ (∀ W, Below w.heap.size w W → Calls Tryz.prog 14 #[caV c fv dv sv, ttV (tqT t), .int .i64 (i : Int)] W (OffR W L)) ∧
      (∀ W, Below w.heap.size w W → Calls Tryz.prog 14 #[caV (movC c b) fv dv sv, ttV (tqT (addT t b)), .int .i64 (i : Int)] W (OffR W L)) ∧
      (∀ W, Below w.heap.size w W → Calls Tryz.prog 14 #[caV c fv dv sv, ttV (tqT (Po.still t)), .int .i64 (i : Int)] W (OffR W M)) ∧
      (∀ W, Below w.heap.size w W → Calls Tryz.prog 14 #[caV (movC c b) fv dv sw, ttV (tqT (Po.still t)), .int .i64 (i : Int)] W (OffR W M)) := by
  obtain ⟨hk, h64, hin, -, -⟩ := R.ok
  have hp := hin _ (Po.at_mem hi)
  have hq : i < (ls.map fun p => addP p b).length := by rw [List.length_map]; exact hi
  refine ⟨(dvC c t (Po.at_ ls i)).map rtoa, (dvC c (Po.still t) (Po.at_ ls i)).map rtoa, by rw [List.length_map]; exact dvC_pos hk _, by rw [List.length_map]; exact (dvC_sh hk hp).1, by rw [List.length_map]; exact (dvC_sh R.still.ok.1 hp).1,
    dev_is hg S R i hi, fun W h => ?_, dev_is hg S R.still i hi, fun W h => ?_⟩
  · have := dev_is hg (movC_S S b) hR i hi W h
    rwa [dv_shift] at this
  · have := dev_is hg (movC_SP S b Q (by rw [List.length_map]; exact S.ln)) hM i hq W h
    rwa [at_map b hi, dv_still] at this
end Go.Proofs.Wk
