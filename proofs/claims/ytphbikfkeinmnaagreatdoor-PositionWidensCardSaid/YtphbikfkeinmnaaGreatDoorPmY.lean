/- POSITION, IN THE LAW: two rows that are copied at once (a region that draws its order). -/
import Derived.Test.YtphbikfkeinmnaaGreatDoorPE
import Derived.Deep.RegionHeld3
namespace Go.Proofs.Wk
open Go.RowKit Mt Po

theorem yieldsIf_load_row {P : Program} {ops : Array Oper} {S : World → Prop} {o : Oper} {a : Act} (hw : Region.wanted o (yielded ops a.tmps) = true) (ty : TypeId) (x : Operand) (ho : o.op = .load ty x)
    (g : Nat) (hx : a.eval x = .pointer (some ⟨g, 0, none⟩)) (cs : Array Value) (hS : ∀ w, S w → (loadVar ty ⟨g, 0, none⟩).run P w = .ok (.agg cs) w) : YieldsIf P ops S o (.agg cs) a :=
  .inl ⟨hw, fun w hw' => by
    unfold execOp
    simp only [ho, hx, Instr.loadAt, Instr.sureAddr, Sem.run_bind, Sem.run_pure, Result.andThen_ok, hS w hw']⟩
theorem wp_run_val {P : Program} {o : Oper} {a : Act} {w w' : World} {u : Value} {K : Act → World → Prop} {Q : Exit → Act → World → Prop} (hr : (execOp a.eval o).run P w = .ok (.value u) w') (hK : K (a.put o.dst u) w') : o.wp P a w K Q := by
  unfold Oper.wp
  rw [hr]
  exact hK
abbrev zcC : Array Value := #[.string ⟨#[]⟩, .int .i64 0, .int .i64 0, .int .i64 0, .int .i64 0, .int .i64 0, .int .i64 0, .int .i64 0, .slice none 0 0, .int .i64 0, .bool false, .int .i64 0, .int .i64 0, .slice none 0 0, .slice none 0 0, .int .i64 0]
abbrev ztC : Array Value := #[.string ⟨#[]⟩, .string ⟨#[]⟩, .string ⟨#[]⟩, .string ⟨#[]⟩, .string ⟨#[]⟩, .string ⟨#[]⟩]
theorem al_case (o : Oper) (ho : o.op = .alloc 34) {ρ : Operand → Value} (W : World) : (execOp ρ o).run Tryz.prog W = .ok (.value (.pointer (some ⟨W.heap.size, 0, none⟩))) (W.alloc (.cells zcC 34)) := by
  unfold execOp
  rw [ho]
  go_simp
theorem al_tor (o : Oper) (ho : o.op = .alloc 38) {ρ : Operand → Value} (W : World) : (execOp ρ o).run Tryz.prog W = .ok (.value (.pointer (some ⟨W.heap.size, 0, none⟩))) (W.alloc (.cells ztC 38)) := by
  unfold execOp
  rw [ho]
  go_simp
set_option maxRecDepth 100000 in
set_option maxHeartbeats 2000000 in
theorem copyN {id : Nat} {Q : Exit → Act → World → Prop} {a : Act} {w : World} (hsz : a.tmps.size = 89) (hQ : ∀ c (a : Act) d v w, Q (.panic c) (a.put d v) w → Q (.panic c) a w) (g1 g2 : Nat)
    (h1 : a.eval (.tmp 2) = .pointer (some ⟨g1, 0, none⟩)) (h2 : a.eval (.tmp 2) = .pointer (some ⟨g2, 0, none⟩)) (C1 C2 Z1 Z2 : Array Value)
    (r1 : w.heap[g1]? = some (.cells C1 34 (0, 0))) (r2 : w.heap[g2]? = some (.cells C2 34 (0, 0))) (y1 : ∀ W : World, W.heap[g1]? = some (.cells C1 34 (0, 0)) → (loadVar 34 ⟨g1, 0, none⟩).run Tryz.prog W = .ok (.agg C1) W) (y2 : ∀ W : World, W.heap[g2]? = some (.cells C2 34 (0, 0)) → (loadVar 34 ⟨g2, 0, none⟩).run Tryz.prog W = .ok (.agg C2) W)
    (hi1 : (Tryz.prog.info? 34).map (·.size) = some C1.size) (hi2 : (Tryz.prog.info? 34).map (·.size) = some C2.size) (hz1 : Z1.size = C1.size) (hz2 : Z2.size = C2.size) (o1 : C1.all (·.oneCell') = true) (o2 : C2.all (·.oneCell') = true)
    (A2 : ∀ (o : Oper) (_ : o.op = .alloc 34) {ρ : Operand → Value} (W : World), (execOp ρ o).run Tryz.prog W = .ok (.value (.pointer (some ⟨W.heap.size, 0, none⟩))) (W.alloc (.cells Z1 34)))
    (A3 : ∀ (o : Oper) (_ : o.op = .alloc 34) {ρ : Operand → Value} (W : World), (execOp ρ o).run Tryz.prog W = .ok (.value (.pointer (some ⟨W.heap.size, 0, none⟩))) (W.alloc (.cells Z2 34)))
    (h : ∀ g5 g6 W, w.heap.size ≤ g5 → w.heap.size ≤ g6 → g5 ≠ g6 → W.heap[g5]? = some (.cells C1 34 (0, 0)) → W.heap[g6]? = some (.cells C2 34 (0, 0)) → Below w.heap.size w W →
      Q .normal ((((a.put (some 34) (.agg C1)).put (some 35) (.agg C2)).put (some 5) (.pointer (some ⟨g5, 0, none⟩))).put (some 6) (.pointer (some ⟨g6, 0, none⟩))) W) :
    (Code.region id #[{ dst := some 34, op := .load 34 (.tmp 2), type := 34, pos := "law.go:88", after := #[], guard := none },
    { dst := some 35, op := .load 34 (.tmp 2), type := 34, pos := "law.go:88", after := #[{ on := 4, ground := .gcOnly .lateStores }], guard := none },
    { dst := some 5, op := .alloc 34, type := 0, pos := "law.go:88", after := #[], guard := none },
    { dst := some 6, op := .alloc 34, type := 0, pos := "law.go:88", after := #[], guard := none },
    { dst := none, op := .store 34 (.tmp 5) (.tmp 34), type := 0, pos := "law.go:88", after := #[{ on := 2, ground := .data }, { on := 0, ground := .data }, { on := 0, ground := .phase }, { on := 1, ground := .textOnly .lateStores }, { on := 2, ground := .phase }, { on := 3, ground := .phase }], guard := none },
    { dst := none, op := .store 34 (.tmp 6) (.tmp 35), type := 0, pos := "law.go:88", after := #[{ on := 3, ground := .data }, { on := 1, ground := .data }, { on := 4, ground := .chain }, { on := 0, ground := .phase }, { on := 1, ground := .phase }, { on := 2, ground := .phase }, { on := 3, ground := .phase }, { on := 4, ground := .phase }], guard := none }] true).wp Tryz.prog Q a w := by
  have l1 : g1 < w.heap.size := (Array.getElem?_eq_some_iff.1 r1).1
  have l2 : g2 < w.heap.size := (Array.getElem?_eq_some_iff.1 r2).1
  have hx2 : (a.put (some 34) (.agg C1)).eval (.tmp 2) = .pointer (some ⟨g2, 0, none⟩) := by rw [← h2]; simp [Act.eval, Act.put]
  refine wp_region_held_drew (S := (fun W => W.heap[g1]? = some (.cells C1 34 (0, 0)) ∧ W.heap[g2]? = some (.cells C2 34 (0, 0)))) (by kernel_rfl) ⟨r1, r2⟩ (fun hHeld => ?_)
  refine wpAnyH_take (i := 0) (oi := { dst := some 34, op := .load 34 (.tmp 2), type := 34, pos := "law.go:88", after := #[], guard := none }) (v := .agg C1) rfl (by kernel_rfl) (by kernel_rfl) (by kernel_rfl) (fun c a w => hQ c a _ _ w) (yieldsIf_load_row (by rfl) 34 (.tmp 2) rfl g1 h1 C1 (fun W hW => y1 W hW.1)) hHeld ?_
  show wpAnyH _ _ _ _ _ 5 #[true, false, false, false, false, false] (a.put (some 34) (.agg C1)) _
  refine wpAnyH_take (i := 1) (oi := { dst := some 35, op := .load 34 (.tmp 2), type := 34, pos := "law.go:88", after := #[{ on := 4, ground := .gcOnly .lateStores }], guard := none }) (v := .agg C2) rfl (by kernel_rfl) (by kernel_rfl) (by kernel_rfl) (fun c a w => hQ c a _ _ w) (yieldsIf_load_row (by rfl) 34 (.tmp 2) rfl g2 hx2 C2 (fun W hW => y2 W hW.2)) hHeld ?_
  show wpAnyH _ _ _ _ _ 4 #[true, true, false, false, false, false] ((a.put (some 34) (.agg C1)).put (some 35) (.agg C2)) _
  refine wpAnyH_ready (rs := [2, 3]) (by kernel_rfl) (by simp) ?_
  refine AllReadyH.cons (o := { dst := some 5, op := .alloc 34, type := 0, pos := "law.go:88", after := #[], guard := none }) rfl (fun K hK => ?_) (AllReadyH.cons (o := { dst := some 6, op := .alloc 34, type := 0, pos := "law.go:88", after := #[], guard := none }) rfl (fun K hK => ?_) AllReadyH.nil)
  · rw [if_pos (by rfl)]
    refine wp_run_val (u := .pointer (some ⟨w.heap.size, 0, none⟩)) (w' := (w.drew.alloc (.cells Z1 34))) (A2 _ rfl _) ?_
    refine hK.out _ _ ⟨keepD hHeld.1 (below_al _ _), keepD hHeld.2 (below_al _ _)⟩ (fun hHeld2 => ?_)
    clear hK
    show wpAnyH _ _ _ _ _ 3 #[true, true, true, false, false, false] (((a.put (some 34) (.agg C1)).put (some 35) (.agg C2)).put (some 5) (.pointer (some ⟨w.heap.size, 0, none⟩))) _
    refine wpAnyH_ready (rs := [3]) (by kernel_rfl) (by simp) ?_
    refine AllReadyH.cons (o := { dst := some 6, op := .alloc 34, type := 0, pos := "law.go:88", after := #[], guard := none }) rfl (fun K hK => ?_) AllReadyH.nil
    rw [if_pos (by rfl)]
    refine wp_run_val (u := .pointer (some ⟨w.heap.size + 1, 0, none⟩)) (w' := ((w.drew.alloc (.cells Z1 34)).alloc (.cells Z2 34))) (by have := A3 { dst := some 6, op := .alloc 34, type := 0, pos := "law.go:88", after := #[], guard := none } rfl (ρ := (((a.put (some 34) (.agg C1)).put (some 35) (.agg C2)).put (some 5) (.pointer (some ⟨w.heap.size, 0, none⟩))).eval) (w.drew.alloc (.cells Z1 34)); rwa [show (w.drew.alloc (.cells Z1 34)).heap.size = w.heap.size + 1 from World.size_alloc _ _] at this) ?_
    refine hK.out _ _ ⟨keepD hHeld2.1 (below_al _ _), keepD hHeld2.2 (below_al _ _)⟩ (fun hHeld3 => ?_)
    clear hK hHeld2
    show wpAnyH _ _ _ _ _ 2 #[true, true, true, true, false, false] ((((a.put (some 34) (.agg C1)).put (some 35) (.agg C2)).put (some 5) (.pointer (some ⟨w.heap.size, 0, none⟩))).put (some 6) (.pointer (some ⟨(w.heap.size + 1), 0, none⟩))) _
    have HN : ((w.drew.alloc (.cells Z1 34)).alloc (.cells Z2 34)).heap[w.heap.size + 1]? = some (.cells Z2 34 (0, 0)) := nw2 w.drew _ _ _ _
    have HM : ((w.drew.alloc (.cells Z1 34)).alloc (.cells Z2 34)).heap[w.heap.size]? = some (.cells Z1 34 (0, 0)) := keepD (heap_alloc_new w.drew _) (below_al _ _)
    have HB : Below w.heap.size w ((w.drew.alloc (.cells Z1 34)).alloc (.cells Z2 34)) := ((Below.refl _ _).drew.nx (below_al _ _)).nx (below_al _ _)
    generalize ((w.drew.alloc (.cells Z1 34)).alloc (.cells Z2 34)) = W2 at *
    refine wpAnyH_ready (rs := [4]) (by kernel_rfl) (by simp) ?_
    refine AllReadyH.cons (o := { dst := none, op := .store 34 (.tmp 5) (.tmp 34), type := 0, pos := "law.go:88", after := #[{ on := 2, ground := .data }, { on := 0, ground := .data }, { on := 0, ground := .phase }, { on := 1, ground := .textOnly .lateStores }, { on := 2, ground := .phase }, { on := 3, ground := .phase }], guard := none }) rfl (fun K hK => ?_) AllReadyH.nil
    rw [if_pos (by rfl)]
    refine wp_store_row 34 (.tmp 5) (.tmp 34) rfl w.heap.size C1 (by simp [Act.eval, Act.put, hsz]) (by simp [Act.eval, Act.put, hsz]) 34 Z1 HM hi1 hz1 o1 ?_
    refine hK.out _ _ ⟨(setRow_other _ _ _ _ (by omega)).trans hHeld3.1, (setRow_other _ _ _ _ (by omega)).trans hHeld3.2⟩ (fun hHeld4 => ?_)
    clear hK hHeld3
    show wpAnyH _ _ _ _ _ 1 #[true, true, true, true, true, false] ((((a.put (some 34) (.agg C1)).put (some 35) (.agg C2)).put (some 5) (.pointer (some ⟨w.heap.size, 0, none⟩))).put (some 6) (.pointer (some ⟨(w.heap.size + 1), 0, none⟩))) _
    refine wpAnyH_ready (rs := [5]) (by kernel_rfl) (by simp) ?_
    refine AllReadyH.cons (o := { dst := none, op := .store 34 (.tmp 6) (.tmp 35), type := 0, pos := "law.go:88", after := #[{ on := 3, ground := .data }, { on := 1, ground := .data }, { on := 4, ground := .chain }, { on := 0, ground := .phase }, { on := 1, ground := .phase }, { on := 2, ground := .phase }, { on := 3, ground := .phase }, { on := 4, ground := .phase }], guard := none }) rfl (fun K hK => ?_) AllReadyH.nil
    rw [if_pos (by rfl)]
    refine wp_store_row 34 (.tmp 6) (.tmp 35) rfl (w.heap.size + 1) C2 (by simp [Act.eval, Act.put, hsz]) (by simp [Act.eval, Act.put, hsz]) 34 Z2 ((setRow_other _ _ _ _ (by omega)).trans HN) hi2 hz2 o2 ?_
    refine hK.out _ _ ⟨(setRow_other _ _ _ _ (by omega)).trans hHeld4.1, (setRow_other _ _ _ _ (by omega)).trans hHeld4.2⟩ (fun hHeld5 => ?_)
    clear hK hHeld4 hHeld5
    refine wpAnyH_done (by kernel_rfl) ?_ _
    have HF := h w.heap.size (w.heap.size + 1) ((W2.setRow w.heap.size C1).setRow (w.heap.size + 1) C2) (by omega) (by omega) (by omega) ((setRow_other _ _ _ _ (by omega)).trans (setRow_heap _ _ _ _ _ _ HM)) (setRow_heap _ _ _ _ _ _ ((setRow_other _ _ _ _ (by omega)).trans HN)) (below_setRow (below_setRow HB (by omega) _) (by omega) _)
    exact HF
  · rw [if_pos (by rfl)]
    refine wp_run_val (u := .pointer (some ⟨w.heap.size, 0, none⟩)) (w' := (w.drew.alloc (.cells Z2 34))) (A3 _ rfl _) ?_
    refine hK.out _ _ ⟨keepD hHeld.1 (below_al _ _), keepD hHeld.2 (below_al _ _)⟩ (fun hHeld2 => ?_)
    clear hK
    show wpAnyH _ _ _ _ _ 3 #[true, true, false, true, false, false] (((a.put (some 34) (.agg C1)).put (some 35) (.agg C2)).put (some 6) (.pointer (some ⟨w.heap.size, 0, none⟩))) _
    refine wpAnyH_ready (rs := [2]) (by kernel_rfl) (by simp) ?_
    refine AllReadyH.cons (o := { dst := some 5, op := .alloc 34, type := 0, pos := "law.go:88", after := #[], guard := none }) rfl (fun K hK => ?_) AllReadyH.nil
    rw [if_pos (by rfl)]
    refine wp_run_val (u := .pointer (some ⟨w.heap.size + 1, 0, none⟩)) (w' := ((w.drew.alloc (.cells Z2 34)).alloc (.cells Z1 34))) (by have := A2 { dst := some 5, op := .alloc 34, type := 0, pos := "law.go:88", after := #[], guard := none } rfl (ρ := (((a.put (some 34) (.agg C1)).put (some 35) (.agg C2)).put (some 6) (.pointer (some ⟨w.heap.size, 0, none⟩))).eval) (w.drew.alloc (.cells Z2 34)); rwa [show (w.drew.alloc (.cells Z2 34)).heap.size = w.heap.size + 1 from World.size_alloc _ _] at this) ?_
    refine hK.out _ _ ⟨keepD hHeld2.1 (below_al _ _), keepD hHeld2.2 (below_al _ _)⟩ (fun hHeld3 => ?_)
    clear hK hHeld2
    show wpAnyH _ _ _ _ _ 2 #[true, true, true, true, false, false] ((((a.put (some 34) (.agg C1)).put (some 35) (.agg C2)).put (some 6) (.pointer (some ⟨w.heap.size, 0, none⟩))).put (some 5) (.pointer (some ⟨(w.heap.size + 1), 0, none⟩))) _
    have HN : ((w.drew.alloc (.cells Z2 34)).alloc (.cells Z1 34)).heap[w.heap.size + 1]? = some (.cells Z1 34 (0, 0)) := nw2 w.drew _ _ _ _
    have HM : ((w.drew.alloc (.cells Z2 34)).alloc (.cells Z1 34)).heap[w.heap.size]? = some (.cells Z2 34 (0, 0)) := keepD (heap_alloc_new w.drew _) (below_al _ _)
    have HB : Below w.heap.size w ((w.drew.alloc (.cells Z2 34)).alloc (.cells Z1 34)) := ((Below.refl _ _).drew.nx (below_al _ _)).nx (below_al _ _)
    generalize ((w.drew.alloc (.cells Z2 34)).alloc (.cells Z1 34)) = W2 at *
    refine wpAnyH_ready (rs := [4]) (by kernel_rfl) (by simp) ?_
    refine AllReadyH.cons (o := { dst := none, op := .store 34 (.tmp 5) (.tmp 34), type := 0, pos := "law.go:88", after := #[{ on := 2, ground := .data }, { on := 0, ground := .data }, { on := 0, ground := .phase }, { on := 1, ground := .textOnly .lateStores }, { on := 2, ground := .phase }, { on := 3, ground := .phase }], guard := none }) rfl (fun K hK => ?_) AllReadyH.nil
    rw [if_pos (by rfl)]
    refine wp_store_row 34 (.tmp 5) (.tmp 34) rfl (w.heap.size + 1) C1 (by simp [Act.eval, Act.put, hsz]) (by simp [Act.eval, Act.put, hsz]) 34 Z1 HN hi1 hz1 o1 ?_
    refine hK.out _ _ ⟨(setRow_other _ _ _ _ (by omega)).trans hHeld3.1, (setRow_other _ _ _ _ (by omega)).trans hHeld3.2⟩ (fun hHeld4 => ?_)
    clear hK hHeld3
    show wpAnyH _ _ _ _ _ 1 #[true, true, true, true, true, false] ((((a.put (some 34) (.agg C1)).put (some 35) (.agg C2)).put (some 6) (.pointer (some ⟨w.heap.size, 0, none⟩))).put (some 5) (.pointer (some ⟨(w.heap.size + 1), 0, none⟩))) _
    refine wpAnyH_ready (rs := [5]) (by kernel_rfl) (by simp) ?_
    refine AllReadyH.cons (o := { dst := none, op := .store 34 (.tmp 6) (.tmp 35), type := 0, pos := "law.go:88", after := #[{ on := 3, ground := .data }, { on := 1, ground := .data }, { on := 4, ground := .chain }, { on := 0, ground := .phase }, { on := 1, ground := .phase }, { on := 2, ground := .phase }, { on := 3, ground := .phase }, { on := 4, ground := .phase }], guard := none }) rfl (fun K hK => ?_) AllReadyH.nil
    rw [if_pos (by rfl)]
    refine wp_store_row 34 (.tmp 6) (.tmp 35) rfl w.heap.size C2 (by simp [Act.eval, Act.put, hsz]) (by simp [Act.eval, Act.put, hsz]) 34 Z2 ((setRow_other _ _ _ _ (by omega)).trans HM) hi2 hz2 o2 ?_
    refine hK.out _ _ ⟨(setRow_other _ _ _ _ (by omega)).trans hHeld4.1, (setRow_other _ _ _ _ (by omega)).trans hHeld4.2⟩ (fun hHeld5 => ?_)
    clear hK hHeld4 hHeld5
    refine wpAnyH_done (by kernel_rfl) ?_ _
    have HF := h (w.heap.size + 1) w.heap.size ((W2.setRow (w.heap.size + 1) C1).setRow w.heap.size C2) (by omega) (by omega) (by omega) ((setRow_other _ _ _ _ (by omega)).trans (setRow_heap _ _ _ _ _ _ HN)) (setRow_heap _ _ _ _ _ _ ((setRow_other _ _ _ _ (by omega)).trans HM)) (below_setRow (below_setRow HB (by omega) _) (by omega) _)
    rwa [Act.put_comm ((a.put (some 34) (.agg C1)).put (some 35) (.agg C2)) _ _ (fun d e1 e2 => by cases e1; cases e2)] at HF
end Go.Proofs.Wk
