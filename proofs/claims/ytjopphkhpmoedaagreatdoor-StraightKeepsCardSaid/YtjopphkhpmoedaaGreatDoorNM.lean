/- STRAIGHTNESS: marks of several ranges; points appended in a round; what Reject keeps. -/
import Derived.Test.YtjopphkhpmoedaaGreatDoorNL
import Derived.Test.YtjopphkhpmoedaaGreatDoorNC
import Derived.OwnWalkIn
import Derived.Deep.LoopGhost
namespace Go.Proofs.Wk
open Go.RowKit Go.Rng Mt

abbrev mark (D : Nat) : Deferred := { target := .collected D, args := #[] }
abbrev Ms (L : List Nat) : List Deferred := L.map mark
/-- The blocks of the marks are open. -/
structure MkO (b : Nat) (L : List Nat) (W : World) : Prop where
  ge : ∀ D ∈ L, b ≤ D
  op : ∀ D ∈ L, W.heap[D]? = some (.deferred (some []))
  nd : L.Nodup
theorem MkO.nil (b : Nat) (W : World) : MkO b [] W := ⟨fun _ h => (nomatch h), fun _ h => (nomatch h), List.nodup_nil⟩
theorem MkO.lt {b : Nat} {L : List Nat} {W : World} (h : MkO b L W) {D : Nat} (hD : D ∈ L) : D < W.heap.size := (Array.getElem?_eq_some_iff.1 (h.op D hD)).1
theorem MkO.later {b : Nat} {L : List Nat} {W W' : World} (h : MkO b L W) (hb : Below W.heap.size W W') : MkO b L W' :=
  ⟨h.ge, fun D hD => by rw [hb.block D (h.lt hD)]; exact h.op D hD, h.nd⟩
theorem MkO.other {b : Nat} {L : List Nat} {W : World} (h : MkO b L W) {l : Nat} (hl : l ∉ L) (o : Obj) : MkO b L (W.putObj l o) :=
  ⟨h.ge, fun D hD => by rw [World.putObj_heap_other (fun e => by subst e; exact hl hD)]; exact h.op D hD, h.nd⟩
theorem MkO.cel {b : Nat} {L : List Nat} {W : World} (h : MkO b L W) {g j : Nat} (hp : g < b) (v : Value) : MkO b L (W.setCell ⟨g, j, none⟩ v) :=
  ⟨h.ge, fun D hD => by
    have := h.ge D hD
    exact (heap_setCell_other _ _ _ _ (by simp; omega)).trans (h.op D hD), h.nd⟩
theorem MkO.cons {b : Nat} {L : List Nat} {W : World} (h : MkO b L W) {D : Nat} (hb : b ≤ D) (hD : W.heap[D]? = some (.deferred (some []))) (hn : D ∉ L) : MkO b (D :: L) W :=
  ⟨fun x hx => (List.mem_cons.1 hx).elim (fun e => e ▸ hb) (h.ge x), fun x hx => (List.mem_cons.1 hx).elim (fun e => e ▸ hD) (h.op x), List.nodup_cons.2 ⟨hn, h.nd⟩⟩
theorem MkO.tail {b : Nat} {L : List Nat} {W : World} {D : Nat} (h : MkO b (D :: L) W) : MkO b L W :=
  ⟨fun x hx => h.ge x (List.mem_cons_of_mem _ hx), fun x hx => h.op x (List.mem_cons_of_mem _ hx), (List.nodup_cons.1 h.nd).2⟩
theorem SlX.cells {α : Type} [Row α] {W W' : World} {v : Value} {ls : List α} (S : SlX W v ls) (hc : ∀ (b j : Nat) (u : Value), W.cell? ⟨b, j, none⟩ = some u → W'.cell? ⟨b, j, none⟩ = some u) (hs : W.heap.size ≤ W'.heap.size) : SlX W' v ls := by
  rcases S with S | ⟨b, off, cap, e, hR, hl⟩
  · exact .inl S
  · refine .inr ⟨b, off, cap, e, fun i hi j hj => ?_, Nat.lt_of_lt_of_le hl hs⟩
    have h1 := hR i hi j hj
    obtain ⟨u, hu⟩ : ∃ u, (Row.enc ls[i])[j]? = some u := ⟨_, List.getElem?_eq_getElem (show j < (Row.enc ls[i]).length by rw [Row.len]; exact hj)⟩
    rw [hu] at h1 ⊢
    exact hc _ _ _ h1
/-- Leaving with marks. -/
theorem leaves_ms {P : Program} {fn : Func} {tmps : Array Value} {R : Ending → World → Prop} {b : Nat} : ∀ (L : List Nat) (W : World), MkO b L W →
    (∀ W', Below b W W' → (∀ (b j : Nat) (u : Value), W.cell? ⟨b, j, none⟩ = some u → W'.cell? ⟨b, j, none⟩ = some u) → ∃ v, (results fn tmps).run P W' = .ok v W' ∧ R (.returned v) W') → leaves P fn tmps R (Ms L) W
  | [], W, _, h => h W (Below.refl _ _) fun _ _ _ k => k
  | D :: L, W, hm, h => by
    refine ⟨D, rfl, hm.op D (List.mem_cons_self ..), ?_⟩
    have hD := hm.op D (List.mem_cons_self ..)
    refine leaves_ms L _ (hm.tail.other (List.nodup_cons.1 hm.nd).1 _) fun W' hb hc => h W' ?_ ?_
    · have h1 : Below b W (W.putObj D (.deferred none)) := pob (Below.refl _ _) (hm.ge D (List.mem_cons_self ..)) _
      exact h1.trans hb
    · intro c j u hu
      refine hc c j u ?_
      have hne : c ≠ D := fun e => by subst e; simp [World.cell?, hD] at hu
      rw [← hu]
      exact World.cell?_of_block (World.putObj_heap_other hne)
theorem postM_ms {P : Program} {fn : Func} {R : Ending → World → Prop} {a : Act} {W : World} {b : Nat} {L : List Nat} (hd : a.defers = Ms L) (hm : MkO b L W)
    (h : ∀ W', Below b W W' → (∀ (b j : Nat) (u : Value), W.cell? ⟨b, j, none⟩ = some u → W'.cell? ⟨b, j, none⟩ = some u) → ∃ v, (results fn a.tmps).run P W' = .ok v W' ∧ R (.returned v) W') : postM P fn R .ret a W := by
  show leaves P fn a.tmps R a.defers W
  rw [hd]
  exact leaves_ms L W hm h
/-- One element appended in a round. -/
theorem wpListIn_app_row {α : Type} [Row α] {F : Fence} {nF : Nat} {P : Program} {w : World} {ops : Array Oper} {rest : List Oper} {o : Oper} {a : Act} {Q : Exit → Act → World → Prop} (hgd : o.guard = none) (s x : Operand) (t e : TypeId)
    (ho : o.op = .call { callee := .builtin .append, args := #[s, x], argTypes := #[t, t] }) (ht : P.underlying t = some (.slice e)) (z : Value) (by_ : Nat) (hby : 1 ≤ by_)
    (hi : (P.info? e).map (fun i => (i.zero, i.size, i.bytes)) = some (some z, Row.k α, by_)) (hz : z.cells.size = Row.k α) (base : Nat) (v : Value) (ls : List α) (hs : a.eval s = v) (hown : OwX e w base v ls)
    (b : Nat) (l : α) (hx : a.eval x = .slice (some ⟨b, 0, none⟩) 1 1) (hc : ∀ j, j < Row.k α → w.cell? ⟨b, j, none⟩ = (Row.enc l)[j]?) (hn : (ls.length + 1) * by_ ≤ 140737488355328) (hbase : base ≤ w.heap.size)
    (h : ∀ v' w', OwX e w' base v' (ls ++ [l]) → Below base w w' → wpListIn F nF P ops Q rest (a.put o.dst v') w') : wpListIn F nF P ops Q (o :: rest) a w := by
  obtain ⟨i0, hi0, hz0, hz1, hz2⟩ := info_parts hi
  refine wpListIn_append_own w hgd s x t ho base e i0 z (Row.k α) by_ ht hi0 hz0 hz1 hz2 hz Row.pos v ls.length (rcells ls) hs hown ⟨b, 0, none⟩ 1 1 (Row.enc l) hx (by rw [Row.len, Nat.one_mul]) ?_ (Row.one l) ?_ ?_ hbase ?_
  · intro j u hu
    have hj : j < Row.k α := by rw [← Row.len l]; exact (List.getElem?_eq_some_iff.1 hu).1
    rw [show (⟨b, 0, none⟩ : Addr).add j = ⟨b, j, none⟩ by (simp [Addr.add]; try (intro e; exact e.symm)), hc j hj, hu]
  · have := Nat.le_mul_of_pos_right (ls.length + 1) hby
    unfold maxLen; omega
  · exact hn
  · intro v' w' h1 h2 _
    refine h v' w' ?_ ?_
    · unfold OwX
      rw [List.length_append, rcells_app, rcells_one]
      exact h1
    · refine ⟨h2.os, h2.tape, h2.output, h2.size, fun k hk => h2.block k (by omega) ?_⟩
      intro e1
      have := (World.ownsRow.lt hown k e1.symm).1
      omega
/-- Two plain results in cells. -/
theorem res_cc (tmps : Array Value) (W : World) (B : Nat) (v : Value) (c : Int) (h1 : W.cell? ⟨B + 2, 0, none⟩ = some v) (h2 : W.cell? ⟨B + 3, 0, none⟩ = some (.int .i64 c)) (p1 : tmps.getD 4 undef = .pointer (some ⟨B + 2, 0, none⟩)) (p2 : tmps.getD 5 undef = .pointer (some ⟨B + 3, 0, none⟩)) :
    (results Tryz.f14 tmps).run Tryz.prog W = .ok (.tuple #[v, .int .i64 c]) W := by
  have hr := Tryz.results14
  rw [Array.getD_eq_getD_getElem?] at p1 p2
  simp only [results, hr]
  simp [go_sem, p1, p2, h1, h2, loadVar, asAddr]
/-- What lies in memory between two sizes. -/
structure RjI (v : Value) (t : Int) (w : World) (L : List Nat) (W : World) : Prop where
  c0 : W.heap[w.heap.size]? = some (.cells #[v] 22 (0, 0))
  c1 : W.heap[w.heap.size + 1]? = some (.cells #[.int .i64 t] 3 (0, 0))
  c2 : W.heap[w.heap.size + 2]? = some (.cells #[.slice none 0 0] 29 (0, 0))
  c3 : W.heap[w.heap.size + 3]? = some (.cells #[.int .i64 0] 24 (0, 0))
  ms : MkO (w.heap.size + 4) L W
  w : Below w.heap.size w W
theorem RjI.sz {v : Value} {t : Int} {w : World} {L : List Nat} {W : World} (h : RjI v t w L W) : w.heap.size + 4 ≤ W.heap.size := (Array.getElem?_eq_some_iff.1 h.c3).1
theorem RjI.later {v : Value} {t : Int} {w : World} {L : List Nat} {W W' : World} (h : RjI v t w L W) (hb : Below W.heap.size W W') : RjI v t w L W' := by
  have hs := h.sz
  exact ⟨by rw [hb.block _ (by omega)]; exact h.c0, by rw [hb.block _ (by omega)]; exact h.c1, by rw [hb.block _ (by omega)]; exact h.c2, by rw [hb.block _ (by omega)]; exact h.c3, h.ms.later hb, h.w.nx hb⟩
theorem RjI.other {v : Value} {t : Int} {w : World} {L : List Nat} {W : World} (h : RjI v t w L W) {l : Nat} (hl : w.heap.size + 4 ≤ l) (hn : l ∉ L) (o : Obj) : RjI v t w L (W.putObj l o) :=
  ⟨by rw [World.putObj_heap_other (by omega)]; exact h.c0, by rw [World.putObj_heap_other (by omega)]; exact h.c1, by rw [World.putObj_heap_other (by omega)]; exact h.c2, by rw [World.putObj_heap_other (by omega)]; exact h.c3, h.ms.other hn o, pob h.w (by omega) _⟩
/-- In a round: the iterator's cells and the loop's record too. -/
structure RjJ (v : Value) (t : Int) (w : World) (L : List Nat) (n k B : Nat) (lp : Obj) (W : World) : Prop where
  i : RjI v t w ((B + 2) :: L) W
  n : W.heap[B]? = some (.cells #[.int .i64 (n : Int)] 3 (0, 0))
  k : W.heap[B + 1]? = some (.cells #[.int .i64 (k : Int)] 3 (0, 0))
  lp : W.heap[B + 3]? = some lp
  lt : w.heap.size + 4 ≤ B ∧ ∀ D ∈ L, D < B
theorem RjJ.later {v : Value} {t : Int} {w : World} {L : List Nat} {n k B : Nat} {lp : Obj} {W W' : World} (h : RjJ v t w L n k B lp W) (hb : Below W.heap.size W W') : RjJ v t w L n k B lp W' := by
  have hs := (Array.getElem?_eq_some_iff.1 h.lp).1
  exact ⟨h.i.later hb, by rw [hb.block _ (by omega)]; exact h.n, by rw [hb.block _ (by omega)]; exact h.k, by rw [hb.block _ (by omega)]; exact h.lp, h.lt⟩
theorem RjJ.notin {v : Value} {t : Int} {w : World} {L : List Nat} {n k B : Nat} {lp : Obj} {W : World} (h : RjJ v t w L n k B lp W) : B + 3 ∉ (B + 2) :: L := fun e => by
  rcases List.mem_cons.1 e with e | e
  · omega
  · have := h.lt.2 _ e; omega
theorem RjJ.put {v : Value} {t : Int} {w : World} {L : List Nat} {n k B : Nat} {lp : Obj} {W : World} (h : RjJ v t w L n k B lp W) (o : Obj) : RjJ v t w L n k B o (W.putObj (B + 3) o) :=
  ⟨h.i.other (by have := h.lt.1; omega) h.notin o, by rw [World.putObj_heap_other (by omega)]; exact h.n, by rw [World.putObj_heap_other (by omega)]; exact h.k, World.putObj_heap_same (Array.getElem?_eq_some_iff.1 h.lp).1, h.lt⟩
/-- A round in which points are rejected. -/
structure RjX (w : World) (L : List Nat) (x : List Nat) (l : Nat) (lp : Obj) (W : World) : Prop where
  r : ∃ u, W.cell? ⟨w.heap.size + 2, 0, none⟩ = some u ∧ SlX W u x
  e : W.cell? ⟨w.heap.size + 3, 0, none⟩ = some (.int .i64 0)
  ms : MkO (w.heap.size + 4) L W
  lp : W.heap[l]? = some lp
  nin : l ∉ L ∧ w.heap.size + 4 ≤ l
  w : Below w.heap.size w W
theorem RjX.put {w : World} {L : List Nat} {x : List Nat} {l : Nat} {r : Loop} {W : World} (h : RjX w L x l (.loop r) W) (o : Obj) : RjX w L x l o (W.putObj l o) := by
  obtain ⟨u, hu, S⟩ := h.r
  have hc : ∀ (b j : Nat) (u : Value), W.cell? ⟨b, j, none⟩ = some u → (W.putObj l o).cell? ⟨b, j, none⟩ = some u := fun b j u hu => by
    have hne : b ≠ l := fun e => by subst e; have := h.lp; simp [World.cell?, this] at hu
    rw [← hu]; exact World.cell?_of_block (World.putObj_heap_other hne)
  exact ⟨⟨u, hc _ _ _ hu, S.cells hc (by rw [World.putObj_size]; exact Nat.le_refl _)⟩, hc _ _ _ h.e, h.ms.other h.nin.1 o, World.putObj_heap_same (Array.getElem?_eq_some_iff.1 h.lp).1, h.nin, pob h.w (by have := h.nin.2; omega) _⟩
end Go.Proofs.Wk
/- STRAIGHTNESS: points that are rejected. -/
namespace Go.Proofs.Wk
open Go.RowKit Go.Rng Mt
attribute [local go_sem] Oper.semAt_some

/-- What Reject returns. -/
def rejE (ls : List St.Pt) (t : Int) : List Nat × Int := if St.givP ls = 0 then (if 0 ≤ t ∧ t ≤ 100000 then (if ls.length ≤ 10 then ((St.rej ls t).getD [], 0) else ([], 12)) else ([], 2)) else ([], St.givP ls)
def RejR (w : World) (r : List Nat × Int) (e : Ending) (w' : World) : Prop := ∃ u, e = .returned (.tuple #[u, .int .i64 r.2]) ∧ SlX w' u r.1 ∧ Below w.heap.size w w'
theorem rejE_bad {ls : List St.Pt} {t : Int} (h : ¬ St.givP ls = 0) : rejE ls t = ([], St.givP ls) := by unfold rejE; rw [if_neg h]
theorem rejE_out {ls : List St.Pt} {t : Int} (h : St.givP ls = 0) (h2 : ¬ (0 ≤ t ∧ t ≤ 100000)) : rejE ls t = ([], 2) := by unfold rejE; rw [if_pos h, if_neg h2]
theorem rejE_long {ls : List St.Pt} {t : Int} (h : St.givP ls = 0) (h2 : 0 ≤ t ∧ t ≤ 100000) (h3 : ¬ ls.length ≤ 10) : rejE ls t = ([], 12) := by unfold rejE; rw [if_pos h, if_pos h2, if_neg h3]
theorem rejE_ok {ls : List St.Pt} {t : Int} (h : St.givP ls = 0) (h2 : 0 ≤ t ∧ t ≤ 100000) (h3 : ls.length ≤ 10) : rejE ls t = ((St.rej ls t).getD [], 0) := by unfold rejE; rw [if_pos h, if_pos h2, if_pos h3]
theorem rj_start (v : Value) (t : Int) (w : World) : RjI v t w [] ((((w.alloc (.cells #[v] 22)).alloc (.cells #[.int .i64 t] 3)).alloc (.cells #[.slice none 0 0] 29)).alloc (.cells #[.int .i64 0] 24)) := by
  have s1 : (w.alloc (.cells #[v] 22)).heap.size = w.heap.size + 1 := by simp
  have h0 := heap_alloc_new w (.cells #[v] 22)
  have b0 := below_al w (.cells #[v] 22)
  generalize w.alloc (.cells #[v] 22) = W1 at *
  have s2 : (W1.alloc (.cells #[.int .i64 t] 3)).heap.size = w.heap.size + 2 := by simp; omega
  have h1 := alloc_at (o := .cells #[.int .i64 t] 3) s1
  have b1 := below_al W1 (.cells #[.int .i64 t] 3)
  generalize W1.alloc (.cells #[.int .i64 t] 3) = W2 at *
  have s3 : (W2.alloc (.cells #[.slice none 0 0] 29)).heap.size = w.heap.size + 3 := by simp; omega
  have h2 := alloc_at (o := .cells #[.slice none 0 0] 29) s2
  have b2 := below_al W2 (.cells #[.slice none 0 0] 29)
  generalize W2.alloc (.cells #[.slice none 0 0] 29) = W3 at *
  have h3 := alloc_at (o := .cells #[.int .i64 0] 24) s3
  have b3 := below_al W3 (.cells #[.int .i64 0] 24)
  generalize W3.alloc (.cells #[.int .i64 0] 24) = W4 at *
  refine ⟨?_, ?_, ?_, h3, .nil _ _, ((b0.nx b1).nx b2).nx b3⟩
  · rw [b3.block _ (by omega), b2.block _ (by omega), b1.block _ (by omega)]; exact h0
  · rw [b3.block _ (by omega), b2.block _ (by omega)]; exact h1
  · rw [b3.block _ (by omega)]; exact h2
/-- The two results laid at the end. -/
theorem RjI.end {v : Value} {t : Int} {w : World} {L : List Nat} {W : World} (h : RjI v t w L W) (u : Value) (c : Int) :
    let W' := (W.setCell ⟨w.heap.size + 2, 0, none⟩ u).setCell ⟨w.heap.size + 3, 0, none⟩ (.int .i64 c)
    W'.cell? ⟨w.heap.size + 2, 0, none⟩ = some u ∧ W'.cell? ⟨w.heap.size + 3, 0, none⟩ = some (.int .i64 c) ∧ MkO (w.heap.size + 4) L W' ∧ Below w.heap.size w W' := by
  have k1 : (W.setCell ⟨w.heap.size + 2, 0, none⟩ u).heap[w.heap.size + 2]? = some (.cells #[u] 29 (0, 0)) := s1row h.c2
  have k2 : (W.setCell ⟨w.heap.size + 2, 0, none⟩ u).heap[w.heap.size + 3]? = some (.cells #[.int .i64 0] 24 (0, 0)) := (heap_setCell_other _ _ _ _ (by simp)).trans h.c3
  have m1 := h.ms.cel (g := w.heap.size + 2) (j := 0) (by omega) u
  have b1 : Below w.heap.size w (W.setCell ⟨w.heap.size + 2, 0, none⟩ u) := h.w.cel (by simp) u
  generalize W.setCell ⟨w.heap.size + 2, 0, none⟩ u = W1 at *
  have k3 : (W1.setCell ⟨w.heap.size + 3, 0, none⟩ (.int .i64 c)).heap[w.heap.size + 3]? = some (.cells #[.int .i64 c] 24 (0, 0)) := s1row k2
  have k4 : (W1.setCell ⟨w.heap.size + 3, 0, none⟩ (.int .i64 c)).heap[w.heap.size + 2]? = some (.cells #[u] 29 (0, 0)) := (heap_setCell_other _ _ _ _ (by simp)).trans k1
  exact ⟨c1row k4, c1row k3, m1.cel (by omega) _, b1.cel (by simp) _⟩
set_option maxRecDepth 100000 in
set_option maxHeartbeats 1000000 in
theorem reject_bad {v : Value} (ls : List St.Pt) (t : Int) (w : World) (S : SlX w v ls) (hln : ls.length ≤ 140737488355328) (h0 : ¬ St.givP ls = 0) : Calls Tryz.prog 14 #[v, .int .i64 t] w (RejR w ([], St.givP ls)) := by
  have HGV := Lib.hid (fun W (h : Below w.heap.size w W) => given_c ls W (S.later h) hln)
  obtain ⟨sa, cap, rfl⟩ := S.len
  generalize St.givP ls = E at *
  have z : (E != 0) = true := bne_iff_ne.2 h0
  clear h0 S
  refine calls_marks Tryz.func14 rfl ?_
  simp only [Tryz.ntmps14, List.size_toArray, List.length_cons, List.length_nil, Nat.reduceAdd, Nat.reduceSub, Array.replicate_succ, Array.replicate_zero, List.push_toArray, List.append_toArray, List.nil_append, List.cons_append]
  go_wp2_with fail
  have hs := rj_start (.slice sa ls.length cap) t w
  simp only [Nat.add_assoc, Nat.reduceAdd]
  generalize (((w.alloc (.cells #[.slice sa ls.length cap] 22)).alloc (.cells #[.int .i64 t] 3)).alloc (.cells #[.slice none 0 0] 29)).alloc (.cells #[.int .i64 0] 24) = W4 at *
  have c0 := c1row hs.c0
  have HS := Lib.hid hs
  clear hs
  go_wp2_with fail
  ((with_reducible refine (HGV.out _ HS.out.w).mono ?_); rintro e w1 ⟨rfl, hb1⟩)
  have hs := HS.out.later hb1
  have d2 := c1row hs.c2
  have d3 := c1row hs.c3
  have f2 := free_row hs.c2 0
  have f3 := free_row hs.c3 0
  have HS1 := Lib.hid hs
  clear hs HS c0 HGV
  go_wp2
  obtain ⟨e1, e2, e3, e4⟩ := HS1.out.end (.slice none 0 0) E
  refine postM_ms (L := []) rfl e3 (fun W' hb hc => ⟨_, res_cc _ _ w.heap.size _ _ (hc _ _ _ e1) (hc _ _ _ e2) rfl rfl, ⟨_, rfl, .inl ⟨none, 0, rfl, rfl⟩, e4.trans (hb.mono (by omega))⟩⟩)
set_option maxRecDepth 100000 in
set_option maxHeartbeats 1000000 in
theorem reject_out {v : Value} (ls : List St.Pt) (t : Int) (w : World) (S : SlX w v ls) (hln : ls.length ≤ 140737488355328) (h0 : St.givP ls = 0) (ht : ¬ (0 ≤ t ∧ t ≤ 100000)) : Calls Tryz.prog 14 #[v, .int .i64 t] w (RejR w ([], 2)) := by
  have HGV := Lib.hid (fun W (h : Below w.heap.size w W) => given_c ls W (S.later h) hln)
  have HTL := Lib.hid (fun W => tolerance_c t W)
  rw [show tolE t = 2 from if_neg ht] at HTL
  obtain ⟨sa, cap, rfl⟩ := S.len
  rw [h0] at HGV
  clear h0 S ht
  refine calls_marks Tryz.func14 rfl ?_
  simp only [Tryz.ntmps14, List.size_toArray, List.length_cons, List.length_nil, Nat.reduceAdd, Nat.reduceSub, Array.replicate_succ, Array.replicate_zero, List.push_toArray, List.append_toArray, List.nil_append, List.cons_append]
  go_wp2_with fail
  have hs := rj_start (.slice sa ls.length cap) t w
  simp only [Nat.add_assoc, Nat.reduceAdd]
  generalize (((w.alloc (.cells #[.slice sa ls.length cap] 22)).alloc (.cells #[.int .i64 t] 3)).alloc (.cells #[.slice none 0 0] 29)).alloc (.cells #[.int .i64 0] 24) = W4 at *
  have c0 := c1row hs.c0
  have HS := Lib.hid hs
  clear hs
  go_wp2_with fail
  ((with_reducible refine (HGV.out _ HS.out.w).mono ?_); rintro e w1 ⟨rfl, hb1⟩)
  have hs := HS.out.later hb1
  have d1 := c1row hs.c1
  have d2 := c1row hs.c2
  have d3 := c1row hs.c3
  have f2 := free_row hs.c2 0
  have f3 := free_row hs.c3 0
  have HS1 := Lib.hid hs
  clear hs HS c0 HGV
  go_wp2_with fail
  ((with_reducible refine (HTL.out _).mono ?_); rintro e w' ⟨rfl, rfl⟩)
  go_wp2
  obtain ⟨e1, e2, e3, e4⟩ := HS1.out.end (.slice none 0 0) 2
  refine postM_ms (L := []) rfl e3 (fun W' hb hc => ⟨_, res_cc _ _ w.heap.size _ _ (hc _ _ _ e1) (hc _ _ _ e2) rfl rfl, ⟨_, rfl, .inl ⟨none, 0, rfl, rfl⟩, e4.trans (hb.mono (by omega))⟩⟩)
set_option maxRecDepth 100000 in
set_option maxHeartbeats 1000000 in
theorem reject_long {v : Value} (ls : List St.Pt) (t : Int) (w : World) (S : SlX w v ls) (hln : ls.length ≤ 140737488355328) (h0 : St.givP ls = 0) (ht : 0 ≤ t ∧ t ≤ 100000) (hl : ¬ ls.length ≤ 10) : Calls Tryz.prog 14 #[v, .int .i64 t] w (RejR w ([], 12)) := by
  have HGV := Lib.hid (fun W (h : Below w.heap.size w W) => given_c ls W (S.later h) hln)
  have HTL := Lib.hid (fun W => tolerance_c t W)
  rw [show tolE t = 0 from if_pos ht] at HTL
  obtain ⟨sa, cap, rfl⟩ := S.len
  rw [h0] at HGV
  have z1 : (10 : Int) < (ls.length : Int) := by omega
  clear h0 S ht hl
  refine calls_marks Tryz.func14 rfl ?_
  simp only [Tryz.ntmps14, List.size_toArray, List.length_cons, List.length_nil, Nat.reduceAdd, Nat.reduceSub, Array.replicate_succ, Array.replicate_zero, List.push_toArray, List.append_toArray, List.nil_append, List.cons_append]
  go_wp2_with fail
  have hs := rj_start (.slice sa ls.length cap) t w
  simp only [Nat.add_assoc, Nat.reduceAdd]
  generalize (((w.alloc (.cells #[.slice sa ls.length cap] 22)).alloc (.cells #[.int .i64 t] 3)).alloc (.cells #[.slice none 0 0] 29)).alloc (.cells #[.int .i64 0] 24) = W4 at *
  have c0 := c1row hs.c0
  have HS := Lib.hid hs
  clear hs
  go_wp2_with fail
  ((with_reducible refine (HGV.out _ HS.out.w).mono ?_); rintro e w1 ⟨rfl, hb1⟩)
  have hs := HS.out.later hb1
  have d0 := c1row hs.c0
  have d1 := c1row hs.c1
  have d2 := c1row hs.c2
  have d3 := c1row hs.c3
  have f2 := free_row hs.c2 0
  have f3 := free_row hs.c3 0
  have HS1 := Lib.hid hs
  clear hs HS c0 HGV
  go_wp2_with fail
  ((with_reducible refine (HTL.out _).mono ?_); rintro e w' ⟨rfl, rfl⟩)
  go_wp2
  obtain ⟨e1, e2, e3, e4⟩ := HS1.out.end (.slice none 0 0) 12
  refine postM_ms (L := []) rfl e3 (fun W' hb hc => ⟨_, res_cc _ _ w.heap.size _ _ (hc _ _ _ e1) (hc _ _ _ e2) rfl rfl, ⟨_, rfl, .inl ⟨none, 0, rfl, rfl⟩, e4.trans (hb.mono (by omega))⟩⟩)
end Go.Proofs.Wk
/- STRAIGHTNESS: points that are rejected; the rounds. -/
namespace Go.Proofs.Wk
open Go.RowKit Go.Rng Mt
attribute [local go_sem] Oper.semAt_some

theorem MkO.on {b : Nat} {L : List Nat} {W W' : World} (h : MkO b L W) {m : Nat} (hm : ∀ D ∈ L, D < m) (hb : Below m W W') : MkO b L W' :=
  ⟨h.ge, fun D hD => by rw [hb.block D (hm D hD)]; exact h.op D hD, h.nd⟩
theorem RjI.on {v : Value} {t : Int} {w : World} {L : List Nat} {W W' : World} (h : RjI v t w L W) {m : Nat} (h4 : w.heap.size + 4 ≤ m) (hm : ∀ D ∈ L, D < m) (hb : Below m W W') : RjI v t w L W' :=
  ⟨by rw [hb.block _ (by omega)]; exact h.c0, by rw [hb.block _ (by omega)]; exact h.c1, by rw [hb.block _ (by omega)]; exact h.c2, by rw [hb.block _ (by omega)]; exact h.c3, h.ms.on hm hb, h.w.trans (hb.mono (by omega))⟩
theorem RjJ.on {v : Value} {t : Int} {w : World} {L : List Nat} {n k B : Nat} {lp : Obj} {W W' : World} (h : RjJ v t w L n k B lp W) (hb : Below (B + 4) W W') : RjJ v t w L n k B lp W' :=
  ⟨h.i.on (by have := h.lt.1; omega) (fun D hD => by
    rcases List.mem_cons.1 hD with rfl | hD
    · omega
    · have := h.lt.2 D hD; omega) hb, by rw [hb.block _ (by omega)]; exact h.n, by rw [hb.block _ (by omega)]; exact h.k, by rw [hb.block _ (by omega)]; exact h.lp, h.lt⟩
/-- Where a round's range begins. -/
theorem RjI.begin {v : Value} {t : Int} {w : World} {L : List Nat} {W : World} (h : RjI v t w L W) (n k : Nat) (lp : Obj) :
    RjJ v t w L n k W.heap.size lp ((((W.alloc (.cells #[.int .i64 (n : Int)] 3)).alloc (.cells #[.int .i64 (k : Int)] 3)).alloc (.deferred (some []))).alloc lp) := by
  have hs := h.sz
  have hlt : ∀ D ∈ L, D < W.heap.size := fun D hD => h.ms.lt hD
  have s1 : (W.alloc (.cells #[.int .i64 (n : Int)] 3)).heap.size = W.heap.size + 1 := by simp
  have h0 := heap_alloc_new W (.cells #[.int .i64 (n : Int)] 3)
  have b0 := below_al W (.cells #[.int .i64 (n : Int)] 3)
  generalize W.alloc (.cells #[.int .i64 (n : Int)] 3) = W1 at *
  have s2 : (W1.alloc (.cells #[.int .i64 (k : Int)] 3)).heap.size = W.heap.size + 2 := by simp; omega
  have h1 := alloc_at (o := .cells #[.int .i64 (k : Int)] 3) s1
  have b1 := below_al W1 (.cells #[.int .i64 (k : Int)] 3)
  generalize W1.alloc (.cells #[.int .i64 (k : Int)] 3) = W2 at *
  have s3 : (W2.alloc (.deferred (some []))).heap.size = W.heap.size + 3 := by simp; omega
  have h2 := alloc_at (o := .deferred (some [])) s2
  have b2 := below_al W2 (.deferred (some []))
  generalize W2.alloc (.deferred (some [])) = W3 at *
  have h3 := alloc_at (o := lp) s3
  have b3 := below_al W3 lp
  generalize W3.alloc lp = W4 at *
  have h2' : W4.heap[W.heap.size + 2]? = some (.deferred (some [])) := by rw [b3.block _ (by omega)]; exact h2
  have hi := h.later (((b0.nx b1).nx b2).nx b3)
  refine ⟨⟨hi.c0, hi.c1, hi.c2, hi.c3, hi.ms.cons (by omega) h2' (fun e => by have := hlt _ e; omega), hi.w⟩, ?_, ?_, h3, hs, hlt⟩
  · rw [b3.block _ (by omega), b2.block _ (by omega), b1.block _ (by omega)]; exact h0
  · rw [b3.block _ (by omega), b2.block _ (by omega)]; exact h1
theorem kp_round {W1 wX : World} {l : Nat} {r0 r1 : Obj} (h : W1.heap[l]? = some r0) (hb : Below (W1.putObj l r1).heap.size (W1.putObj l r1) wX) : Kp none W1 (wX.putObj l r0) := by
  have hl := (Array.getElem?_eq_some_iff.1 h).1
  have hs : (W1.putObj l r1).heap.size = W1.heap.size := World.putObj_size ..
  refine ⟨hb.os, hb.tape, hb.output, ?_, fun k hk _ => ?_⟩
  · rw [World.putObj_size]; have := hb.size; omega
  · by_cases e : k = l
    · subst e
      rw [World.putObj_heap_same (by have := hb.size; omega), h]
    · rw [World.putObj_heap_other e, hb.block k (by omega), World.putObj_heap_other e]
theorem SlX.putL {α : Type} [Row α] {W : World} {l : Nat} {r : Loop} (h : W.heap[l]? = some (.loop r)) {v : Value} {ls : List α} (S : SlX W v ls) (o : Obj) : SlX (W.putObj l o) v ls :=
  S.cells (fun b j u hu => by
    have hne : b ≠ l := fun e => by subst e; simp [World.cell?, h] at hu
    rw [← hu]; exact World.cell?_of_block (World.putObj_heap_other hne)) (by rw [World.putObj_size]; exact Nat.le_refl _)
/-- A list of two or more is not where one cell lies. -/
theorem SlX.set1 {W : World} {u : Value} {x : List Nat} (S : SlX W u x) (h2 : 2 ≤ x.length) {g : Nat} {c0 : Value} {T : TypeId} {fr : Nat × Nat} (hg : W.heap[g]? = some (.cells #[c0] T fr)) (y : Value) : SlX (W.setCell ⟨g, 0, none⟩ y) u x := by
  rcases S with ⟨a, cap, rfl, rfl⟩ | ⟨b, off, cap, e, hR, hl⟩
  · simp at h2
  · have hne : b ≠ g := fun e => by
      subst e
      have := hR 1 (by omega) 0 (by decide)
      rw [cell_of_row _ _ _ _ _ _ hg] at this
      have e2 : (Row.enc x[1])[0]? = some (Value.int .i64 (x[1] : Int)) := rfl
      rw [e2, show Row.k Nat = 1 from rfl] at this
      have e3 : (#[c0] : Array Value)[off + 1 * 1 + 0]? = none := by
        rw [Array.getElem?_eq_none_iff]; simp
      rw [e3] at this; cases this
    refine .inr ⟨b, off, cap, e, fun i hi j hj => ?_, by simpa [World.setCell] using hl⟩
    rw [World.cell?_of_block (heap_setCell_other _ _ _ _ (by simpa using hne))]
    exact hR i hi j hj
/-- What is left where points are rejected. -/
theorem RjJ.found {v : Value} {t : Int} {w : World} {L : List Nat} {n k B : Nat} {r : Loop} {W : World} (h : RjJ v t w L n k B (.loop r) W) {u : Value} {x : List Nat} (S : SlX W u x) (h2 : 2 ≤ x.length) :
    RjX w ((B + 2) :: L) x (B + 3) (.loop r) ((W.setCell ⟨w.heap.size + 2, 0, none⟩ u).setCell ⟨w.heap.size + 3, 0, none⟩ (.int .i64 0)) := by
  have hlt := h.lt.1
  have k1 : (W.setCell ⟨w.heap.size + 2, 0, none⟩ u).heap[w.heap.size + 2]? = some (.cells #[u] 29 (0, 0)) := s1row h.i.c2
  have k2 : (W.setCell ⟨w.heap.size + 2, 0, none⟩ u).heap[w.heap.size + 3]? = some (.cells #[.int .i64 0] 24 (0, 0)) := (heap_setCell_other _ _ _ _ (by simp)).trans h.i.c3
  have kl : (W.setCell ⟨w.heap.size + 2, 0, none⟩ u).heap[B + 3]? = some (.loop r) := (heap_setCell_other _ _ _ _ (show B + 3 ≠ w.heap.size + 2 by omega)).trans h.lp
  have m1 := h.i.ms.cel (g := w.heap.size + 2) (j := 0) (by omega) u
  have s1 := S.set1 h2 h.i.c2 u
  have b1 : Below w.heap.size w (W.setCell ⟨w.heap.size + 2, 0, none⟩ u) := h.i.w.cel (by simp) u
  generalize W.setCell ⟨w.heap.size + 2, 0, none⟩ u = W1 at *
  have k3 : (W1.setCell ⟨w.heap.size + 3, 0, none⟩ (.int .i64 0)).heap[w.heap.size + 3]? = some (.cells #[.int .i64 0] 24 (0, 0)) := s1row k2
  have k4 : (W1.setCell ⟨w.heap.size + 3, 0, none⟩ (.int .i64 0)).heap[w.heap.size + 2]? = some (.cells #[u] 29 (0, 0)) := (heap_setCell_other _ _ _ _ (by simp)).trans k1
  refine ⟨⟨u, c1row k4, s1.set1 h2 k2 _⟩, c1row k3, m1.cel (by omega) _, (heap_setCell_other _ _ _ _ (show B + 3 ≠ w.heap.size + 3 by omega)).trans kl, ⟨h.notin, by omega⟩, b1.cel (by simp) _⟩
end Go.Proofs.Wk
/- STRAIGHTNESS: Reject, walked. -/
namespace Go.Proofs.Wk
open Go.RowKit Go.Rng Mt
attribute [local go_sem] Oper.semAt_some

set_option maxRecDepth 100000 in
set_option maxHeartbeats 4000000 in
theorem reject_ok {v : Value} (ls : List St.Pt) (t : Int) (w : World) (hg : Good w) (S : SlX w v ls) (h0 : St.givP ls = 0) (ht : 0 ≤ t ∧ t ≤ 100000) (hl : ls.length ≤ 10) : Calls Tryz.prog 14 #[v, .int .i64 t] w (RejR w ((St.rej ls t).getD [], 0)) := by
  have HGV := Lib.hid (fun W (h : Below w.heap.size w W) => given_c ls W (S.later h) (by omega))
  have HTL := Lib.hid (fun W => tolerance_c t W)
  rw [show tolE t = 0 from if_pos ht] at HTL
  obtain ⟨i1, i2, i3⟩ := St.givP_in h0
  have HS := Lib.hid S
  have HG := Lib.hid (fun W (h : Below w.heap.size w W) => hg.later h)
  have HCN := Lib.hid (fun k W => choices_c ls.length k W)
  have HIN := Lib.hid i3
  have HT := Lib.hid ht
  refine S.cases _ ?_ ?_
  · rintro a cap rfl rfl
    simp at i1
  rintro b off cap rfl hp hR hb
  have HR := Lib.hid (fun (W : World) (h : Below w.heap.size w W) (k : Nat) (hk : k < ls.length) => (hR.later h hb).ptAt hk)
  rw [h0] at HGV
  have z1 : ¬ (10 : Int) < (ls.length : Int) := by omega
  obtain ⟨E, hE⟩ : ∃ E, St.rej ls t = E := ⟨_, rfl⟩
  have HE := Lib.hid hE
  rw [hE]
  clear h0 S ht hg i3 hE hR hb hp
  refine calls_marks Tryz.func14 rfl ?_
  simp only [Tryz.ntmps14, List.size_toArray, List.length_cons, List.length_nil, Nat.reduceAdd, Nat.reduceSub, Array.replicate_succ, Array.replicate_zero, List.push_toArray, List.append_toArray, List.nil_append, List.cons_append]
  go_wp2_with fail
  have hs := rj_start (.slice (some ⟨b, off, none⟩) ls.length cap) t w
  simp only [Nat.add_assoc, Nat.reduceAdd]
  generalize (((w.alloc (.cells #[.slice (some ⟨b, off, none⟩) ls.length cap] 22)).alloc (.cells #[.int .i64 t] 3)).alloc (.cells #[.slice none 0 0] 29)).alloc (.cells #[.int .i64 0] 24) = W4 at *
  have c0 := c1row hs.c0
  have HS0 := Lib.hid hs
  clear hs
  go_wp2_with fail
  ((with_reducible refine (HGV.out _ HS0.out.w).mono ?_); rintro e w1 ⟨rfl, hb1⟩)
  have hs := HS0.out.later hb1
  have d0 := c1row hs.c0
  have d1 := c1row hs.c1
  have HS1 := Lib.hid hs
  clear hs HS0 c0 HGV hb1
  go_wp2_with fail
  ((with_reducible refine (HTL.out _).mono ?_); rintro e w' ⟨rfl, rfl⟩)
  go_wp2_with fail
  generalize Value.bool (decide ((10 : Int) < (ls.length : Int))) = s25
  refine wp_loop_ghost_k (fun n a W => ∃ (k : Nat) (L : List Nat) (u26 u27 u28 u29 u30 u31 u32 u33 u34 u35 : Value), (3 ≤ k ∧ k ≤ ls.length + 3 ∧ ls.length + 1 ≤ n + k) ∧ Hid (RjI (.slice (some ⟨b, off, none⟩) ls.length cap) t w L W) ∧ Hid (St.rejK ls t k = E) ∧
    a = ⟨#[.slice (some ⟨b, off, none⟩) ls.length cap, .int .i64 t, .pointer (some ⟨w.heap.size, 0, none⟩), .pointer (some ⟨w.heap.size + 1, 0, none⟩), .pointer (some ⟨w.heap.size + 2, 0, none⟩), .pointer (some ⟨w.heap.size + 3, 0, none⟩), .int .i64 0, .int .i64 0,
          .int .i64 (k : Int), undef, undef, undef, undef, .slice (some ⟨b, off, none⟩) ls.length cap, .int .i64 0, .int .i64 0, .bool false, undef, .int .i64 t, .int .i64 0, .int .i64 0, .bool false, undef, .slice (some ⟨b, off, none⟩) ls.length cap,
          .int .i64 ls.length, s25, u26, u27, u28, u29, u30, u31, u32, u33, u34, u35, undef, undef, undef, undef, undef, undef, undef, undef, undef, undef, undef, undef, undef, undef, undef, undef, undef, undef, undef, undef], Ms L⟩) (ls.length + 1) ⟨3, [], undef, undef, undef, undef, undef, undef, undef, undef, undef, undef, ⟨by omega, by omega, by omega⟩, HS1, (St.rejK_three ls t).trans HE.out, rfl⟩ ?_
  rintro n a W ⟨k, L, u26, u27, u28, u29, u30, u31, u32, u33, u34, u35, ⟨hk3, hkn, hm⟩, hI, hK, rfl⟩ J K2 hJ hK2
  have d0 := c1row hI.out.c0
  have hw : IntKind.i64.wrap ((k : Int) + 1) = (k : Int) + 1 := wr rfl (by omega)
  clear d1 HE HS1
  by_cases hle : k ≤ ls.length
  · have z2 : (k : Int) ≤ (ls.length : Int) := by omega
    go_wp2_with fail
    ((with_reducible refine (HCN.out k _).mono ?_); rintro e w2 ⟨rfl, rfl⟩)
    go_wp2_with fail
    refine range_named (gf := 91) (lb := #[.pointer (some ⟨W.heap.size + 1, 0, none⟩), .pointer (some ⟨W.heap.size, 0, none⟩)]) rfl (enters_of Tryz.func91 (by kernel_rfl) rfl) (fun fn lp hlp => ?_)
    have hsz : ((W.alloc (.cells #[.int .i64 (ls.length : Int)] 3)).alloc (.cells #[.int .i64 (k : Int)] 3)).heap.size = W.heap.size + 2 := by simp
    rw [hsz] at hlp ⊢
    simp only [Nat.add_assoc, Nat.reduceAdd]
    have HLP := Lib.hid hlp
    have hj4 := hI.out.begin ls.length k (.loop (lp .ready none))
    have hs4 : ((((W.alloc (.cells #[.int .i64 (ls.length : Int)] 3)).alloc (.cells #[.int .i64 (k : Int)] 3)).alloc (.deferred (some []))).alloc (.loop (lp .ready none))).heap.size = W.heap.size + 4 := by simp
    generalize (((W.alloc (.cells #[.int .i64 (ls.length : Int)] 3)).alloc (.cells #[.int .i64 (k : Int)] 3)).alloc (.deferred (some []))).alloc (.loop (lp .ready none)) = W4 at *
    have hbody : ∀ (x : List Nat) (u : Value) (W1 : World), x.length = k → (∀ i ∈ x, i < ls.length) → SlX W1 u x → RjJ (.slice (some ⟨b, off, none⟩) ls.length cap) t w L ls.length k W.heap.size (.loop (lp .ready none)) W1 →
        YieldAt Fence.wide 0 Tryz.prog (W.heap.size + 3) #[u] W1 (fun e W' => if St.keeps (St.chosen ls x) t = true then YcT (fun W' => RjJ (.slice (some ⟨b, off, none⟩) ls.length cap) t w L ls.length k W.heap.size (.loop (lp .ready none)) W') W1 e W' else YcF (fun x W' => RjX w ((W.heap.size + 2) :: L) x (W.heap.size + 3) (.loop (lp .done (some .ret))) W') x e W') := by
      intro x u W1 hxl hxm S1 hj
      subst hxl
      have hpp := hj.put (.loop (lp .busy none))
      have HKR := Lib.hid (fun W' h => kp_round (W1 := W1) (wX := W') (l := W.heap.size + 3) (r0 := .loop (lp .ready none)) (r1 := .loop (lp .busy none)) hj.lp h)
      refine (S1.putL hj.lp (.loop (lp .busy none))).cases _ ?_ ?_
      · rintro a cap rfl rfl
        simp at hk3
      rintro b2 off2 cap2 rfl hp2 hR2 hb2
      have S3 : SlX (W1.putObj (W.heap.size + 3) (.loop (lp .busy none))) (.slice (some ⟨b2, off2, none⟩) x.length cap2) x := S1.putL hj.lp (.loop (lp .busy none))
      apply yield_named HLP.out hj.lp rfl
      · intro K hK
        gi_wp2
        exact hK
      · have HP := Lib.hid hpp
        have HU := Lib.hid S3
        generalize W1.putObj (W.heap.size + 3) (.loop (lp .busy none)) = W3 at *
        have HR2 := Lib.hid (fun (W' : World) (h : Below W3.heap.size W3 W') (i : Nat) (hi : i < x.length) => (hR2.later h hb2).nat hi)
        have HX := Lib.hid (fun (i : Nat) (hi : i < x.length) => hxm x[i] (List.getElem_mem hi))
        have HST := Lib.hid (fun (i : Nat) (hi : i < x.length) => chosen_step (ls := ls) hi)
        have HFI := Lib.hid (show St.chosen ls (x.take x.length) = St.chosen ls x by rw [List.take_length])
        have HLN := Lib.hid (fun (i : Nat) (hi : i ≤ x.length) => show (St.chosen ls (x.take i)).length = i by rw [St.chosen_len, List.length_take]; omega)
        have HKE := Lib.hid (fun sv wr h1 h2 => keeps_c (v := sv) (St.chosen ls x) t wr h1 h2 (fun p hp => HIN.out p (St.chosen_mem hxm p hp)) (by rw [St.chosen_len]; omega) (by rw [St.chosen_len]; omega) HT.out)
        have HX2 := Lib.hid (show 2 ≤ x.length by omega)
        have hxk : x.length ≤ 10 := by omega
        generalize St.keeps (St.chosen ls x) t = q at *
        generalize St.chosen ls x = ms at *
        clear hR2 hxm S3 S1 hpp hj hJ hK2 hK hI hj4 hs4 hlp hsz d0
        have d0 := c1row HP.out.i.c0
        gi_wp2_with fail
        gi_loopw [10, 39] (fun sv si wr => ∃ i : Nat, si = .int .i64 (i : Int) ∧ i ≤ x.length ∧ Hid (OwX 37 wr W3.heap.size sv (St.chosen ls (x.take i))) ∧ Hid (Below W3.heap.size W3 wr)) (fun _ si _ => x.length - (intOf si).toNat)
        case atStart => exact ⟨0, rfl, Nat.zero_le _, OwX.nil _ _ _, Below.refl _ _⟩
        case round =>
          obtain ⟨i, rfl, hi, hO, hB⟩ := hrel
          have hJw := HP.out.later hB.out
          replace d0 := c1row hJw.i.c0
          have d1 := c1row hJw.i.c1
          have d2 := c1row hJw.i.c2
          have d3 := c1row hJw.i.c3
          have f2 := free_row hJw.i.c2 0
          have f3 := free_row hJw.i.c3 0
          by_cases hlt : i < x.length
          · have k0 := HR2.out _ hB.out i hlt
            have hxi := HX.out i hlt
            have hst := HST.out i hlt
            have hln := HLN.out i (by omega)
            generalize x[i] = xi at *
            have hpt := HR.out _ hJw.i.w xi hxi
            generalize St.at_ ls xi = p at *
            obtain ⟨px, py⟩ := p
            have l0 := hpt.c0
            have l1 := hpt.c1
            have HAL := Lib.hid (below_al wr (.cells #[.int .i64 px, .int .i64 py] 37))
            have HNP := Lib.hid (new_pt wr ⟨px, py⟩ 37)
            have HSZ := Lib.hid (show W3.heap.size ≤ (wr.alloc (.cells #[.int .i64 px, .int .i64 py] 37)).heap.size from Nat.le_trans hB.out.size HAL.out.size)
            have HLL := Lib.hid (show ((St.chosen ls (x.take i)).length + 1) * 16 ≤ 140737488355328 by rw [hln]; omega)
            have HS2 := Lib.hid hst
            simp only at l0 l1
            clear hst hln hpt hJw d1 d2 d3 f2 f3
            gi_wp2_with (gi_at_builtin; refine wpListIn_app_row rfl _ _ 22 37 rfl Tryz.underlying22 ptZ 16 (by decide) (by kernel_rfl) rfl W3.heap.size _ (St.chosen ls (x.take i)) rfl (hO.out.later HAL.out) _ (⟨px, py⟩ : St.Pt) rfl HNP.out HLL.out HSZ.out ?_; intro v1 w1 ho1 hb1)
            have HO1 := Lib.hid ho1
            have HB1 := Lib.hid ((hB.out.trans (HAL.out.mono hB.out.size)).trans (show Below W3.heap.size _ w1 from hb1))
            clear ho1 hb1 k0 l0 l1
            gi_wp2
            go_roundw
            case rel => exact ⟨i + 1, by go_num, by omega, by rw [HS2.out]; exact HO1.out, HB1.out⟩
            case measure => simp [intOf]; omega
          · obtain rfl : i = x.length := by omega
            have ho := hO.out
            rw [HFI.out] at ho
            have HKF := Lib.hid (HKE.out _ wr (HG.out _ hJw.i.w) ho.sl)
            clear HST HLN hO HKE ho hJw HR2 HX
            gi_wp2_with fail
            refine ⟨trivial, rfl, ?_⟩
            refine (callsIn_wide.2 HKF.out).mono ?_
            rintro e w5 ⟨rfl, hb5⟩
            have hB5 : Below W3.heap.size W3 w5 := hB.out.trans (hb5.mono hB.out.size)
            have hJ5 := HP.out.later hB5
            have e2 := c1row hJ5.i.c2
            have e3 := c1row hJ5.i.c3
            have g2 := free_row hJ5.i.c2 0
            have g3 := free_row hJ5.i.c3 0
            have HJ5 := Lib.hid hJ5
            have HK5 := Lib.hid (HKR.out _ hB5)
            have HU5 := Lib.hid (HU.out.later hB5)
            clear hJ5 hB5 hB HP HKF HKR HU hb5 d0 d1 d2 d3 f2 f3
            cases q with
            | true =>
              gi_wp2
              exact ⟨HJ5.out.lp, rfl, HJ5.out.put _, HK5.out⟩
            | false =>
              gi_wp2
              have hrx := HJ5.out.found HU5.out HX2.out
              exact ⟨hrx.lp, rfl, hrx.put _⟩
    refine (choices_in ls.length k (W.heap.size + 1) W.heap.size (W.heap.size + 3) (fun x => St.keeps (St.chosen ls x) t) (fun W' => RjJ (.slice (some ⟨b, off, none⟩) ls.length cap) t w L ls.length k W.heap.size (.loop (lp .ready none)) W')
      (fun x W' => RjX w ((W.heap.size + 2) :: L) x (W.heap.size + 3) (.loop (lp .done (some .ret))) W') W4 (fun W1 W2 h hb => h.on (by rwa [hs4] at hb)) (fun W1 h => ⟨c1row h.k, c1row h.n⟩) ?go ?st (by omega) (by omega) (by omega) hj4).mono ?_
    case go =>
      intro x u W1 hq hxl hxm S1 hj
      obtain ⟨fn, tmps, assign, body, hy, hr⟩ := hbody x u W1 hxl hxm S1 hj
      exact ⟨fn, tmps, assign, body, hy, hr.mono fun e W' h => by rwa [if_pos hq] at h⟩
    case st =>
      intro x u W1 hq hxl hxm S1 hj
      obtain ⟨fn, tmps, assign, body, hy, hr⟩ := hbody x u W1 hxl hxm S1 hj
      exact ⟨fn, tmps, assign, body, hy, hr.mono fun e W' h => by rwa [if_neg (by rw [hq]; simp)] at h⟩
    rintro e W5 ⟨hv, hh⟩
    have hstep := St.rejK_step (t := t) hle
    rw [hK.out] at hstep
    change match St.firstW ls t (St.lst ls.length k) with | none => _ | some x => _ at hh
    generalize St.firstW ls t (St.lst ls.length k) = r at *
    clear hbody
    cases r with
    | none =>
      refine ⟨hv, .ready, none, hh.lp, by decide, ?_⟩
      simp only [After]
      have hi := (hh.put (.loop (lp .exhausted none))).i
      generalize W5.putObj (W.heap.size + 3) (.loop (lp .exhausted none)) = W6 at *
      have HI := Lib.hid hi
      have HKN := Lib.hid (show St.rejK ls t (k + 1) = E from hstep.symm)
      clear hh hi hstep hK hI d0
      go_wp2
      exact Handed.intro (n - 1) (by omega) (hJ _ _ _ ⟨k + 1, (W.heap.size + 2) :: L, _, _, _, _, _, _, _, _, _, _, ⟨by omega, by omega, by omega⟩, HI, HKN, rfl⟩)
    | some x =>
      refine ⟨hv, .done, some .ret, hh.lp, by decide, ?_⟩
      simp only [After]
      have hp := hh.put (.loop (lp .exhausted (some .ret)))
      generalize W5.putObj (W.heap.size + 3) (.loop (lp .exhausted (some .ret))) = W6 at *
      obtain rfl : E = some x := hstep
      have HP := Lib.hid hp
      clear hh hp hK hI d0
      go_wp2
      obtain ⟨u, hu, hS⟩ := HP.out.r
      exact postM_ms (L := (W.heap.size + 2) :: L) rfl HP.out.ms (fun W' hb hc => ⟨_, res_cc _ _ w.heap.size _ _ (hc _ _ _ hu) (hc _ _ _ HP.out.e) rfl rfl, ⟨u, rfl, hS.cells hc hb.size, HP.out.w.trans (hb.mono (by omega))⟩⟩)
  · have z2 : ¬ (k : Int) ≤ (ls.length : Int) := by omega
    have hs := hI.out
    have d2 := c1row hs.c2
    have d3 := c1row hs.c3
    have f2 := free_row hs.c2 0
    have f3 := free_row hs.c3 0
    obtain rfl : E = none := hK.out.symm.trans (St.rejK_end (by omega))
    have HS1 := Lib.hid hs
    clear hs hI hK hJ hK2
    go_wp2
    obtain ⟨e1, e2, e3, e4⟩ := HS1.out.end (.slice none 0 0) 0
    exact postM_ms (L := L) rfl e3 (fun W' hb hc => ⟨_, res_cc _ _ w.heap.size _ _ (hc _ _ _ e1) (hc _ _ _ e2) rfl rfl, ⟨_, rfl, .inl ⟨none, 0, rfl, rfl⟩, e4.trans (hb.mono (by omega))⟩⟩)
theorem Reject_c {v : Value} (ls : List St.Pt) (t : Int) (w : World) (hg : Good w) (S : SlX w v ls) (hln : ls.length ≤ 140737488355328) : Calls Tryz.prog 14 #[v, .int .i64 t] w (RejR w (rejE ls t)) := by
  by_cases h0 : St.givP ls = 0
  · by_cases ht : 0 ≤ t ∧ t ≤ 100000
    · by_cases hl : ls.length ≤ 10
      · rw [rejE_ok h0 ht hl]; exact reject_ok ls t w hg S h0 ht hl
      · rw [rejE_long h0 ht hl]; exact reject_long ls t w S hln h0 ht hl
    · rw [rejE_out h0 ht]; exact reject_out ls t w S hln h0 ht
  · rw [rejE_bad h0]; exact reject_bad ls t w S hln h0
end Go.Proofs.Wk
