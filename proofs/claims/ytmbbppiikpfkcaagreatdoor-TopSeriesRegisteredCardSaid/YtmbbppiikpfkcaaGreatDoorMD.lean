/- REGISTERS OF LOTS: Load and Repair. -/
import Derived.Test.YtmbbppiikpfkcaaGreatDoorMB
import Derived.Test.YtmbbppiikpfkcaaGreatDoorKF
import Derived.Deep.RegionHeld3
namespace Go.Proofs.Wk
open Go.RowKit Go.Rng Mt
attribute [local go_sem] Oper.semAt_some

theorem heap_older {w : World} {o : Obj} {r : Nat} (h : r < w.heap.size) : (w.alloc o).heap[r]? = w.heap[r]? := by
  show (w.heap.push o)[r]? = _
  rw [Array.getElem?_push_lt h, Array.getElem?_eq_getElem h]
/-- The three results' cells. -/
structure Res3 (B : Nat) (v : Value) (n c : Int) (w : World) : Prop where
  c1 : w.heap[B]? = some (.cells #[v] 37 (0, 0))
  c2 : w.heap[B + 1]? = some (.cells #[.int .i64 n] 3 (0, 0))
  c3 : w.heap[B + 2]? = some (.cells #[.int .i64 c] 31 (0, 0))
theorem cell1 {w : World} {b : Nat} {u0 : Value} {T : TypeId} {fr : Nat × Nat} (h : w.heap[b]? = some (.cells #[u0] T fr)) : w.cell? ⟨b, 0, none⟩ = some u0 := by rw [cell_of_row _ _ _ _ _ _ h]; rfl
theorem res3_new (w : World) (c : Int) : Res3 w.heap.size (.slice none 0 0) 0 c (((w.alloc (.cells #[.slice none 0 0] 37)).alloc (.cells #[.int .i64 0] 3)).alloc (.cells #[.int .i64 c] 31)) := by
  have s1 : (w.alloc (.cells #[.slice none 0 0] 37)).heap.size = w.heap.size + 1 := by simp
  have s2 : ((w.alloc (.cells #[.slice none 0 0] 37)).alloc (.cells #[.int .i64 0] 3)).heap.size = w.heap.size + 2 := by simp
  have h1 := heap_alloc_new w (.cells #[.slice none 0 0] 37)
  have h2 := heap_alloc_new (w.alloc (.cells #[.slice none 0 0] 37)) (.cells #[.int .i64 0] 3)
  have h3 := heap_alloc_new ((w.alloc (.cells #[.slice none 0 0] 37)).alloc (.cells #[.int .i64 0] 3)) (.cells #[.int .i64 c] 31)
  rw [s1] at h2
  rw [s2] at h3
  refine ⟨?_, ?_, h3⟩
  · rw [heap_older (r := w.heap.size) (by rw [s2]; omega), heap_older (r := w.heap.size) (by rw [s1]; omega)]; exact h1
  · rw [heap_older (r := w.heap.size + 1) (by rw [s2]; omega)]; exact h2
theorem res3_run (tmps : Array Value) (W : World) (B : Nat) (v : Value) (n c : Int) (h : Res3 B v n c W) (p1 : tmps.getD 2 undef = .pointer (some ⟨B, 0, none⟩)) (p2 : tmps.getD 3 undef = .pointer (some ⟨B + 1, 0, none⟩)) (p3 : tmps.getD 4 undef = .pointer (some ⟨B + 2, 0, none⟩)) :
    (results Tryz.f11 tmps).run Tryz.prog W = .ok (.tuple #[v, .int .i64 n, .int .i64 c]) W := by
  have hr := Tryz.results11
  have c1 := cell1 h.c1
  have c2 := cell1 h.c2
  have c3 := cell1 h.c3
  rw [Array.getD_eq_getD_getElem?] at p1 p2 p3
  simp only [results, hr]
  simp [go_sem, p1, p2, p3, c1, c2, c3, loadVar, asAddr]
set_option maxRecDepth 100000 in
set_option maxHeartbeats 2000000 in
theorem load_long (s : Txt) (w : World) (hl : s.length ≤ 600000) (hm : 262144 < s.length) : Calls Tryz.prog 11 #[.string ⟨s.toArray⟩] w (AllP w ([], 0, 17)) := by
  have i1 : (262144 : Int) < (s.length : Int) := by omega
  refine calls_marks Tryz.func11 rfl ?_
  simp only [Tryz.ntmps11, List.size_toArray, List.length_cons, List.length_nil, Nat.reduceAdd, Nat.reduceSub, Array.replicate_succ, Array.replicate_zero, List.push_toArray, List.append_toArray, List.nil_append, List.cons_append]
  go_wp2
  have r : Res3 w.heap.size (.slice none 0 0) 0 17 (((w.alloc (.cells #[.slice none 0 0] 37)).alloc (.cells #[.int .i64 0] 3)).alloc (.cells #[.int .i64 17] 31)) := res3_new w 17
  refine postM_ret rfl (res3_run _ _ w.heap.size _ _ _ r rfl rfl rfl) ⟨_, rfl, .inl ⟨none, 0, rfl, rfl⟩, ?_⟩
  exact (((Below.refl _ _).alloc (Nat.le_refl _) _).alloc (by simp) _).alloc (by simp; omega) _
theorem putObj_below {B : Nat} {w0 W : World} (h : Below B w0 W) {l : Nat} (hl : B ≤ l) (o : Obj) : Below B w0 (W.putObj l o) :=
  ⟨h.os, h.tape, h.output, by rw [World.putObj_size]; exact h.size, fun k hk => by rw [World.putObj_heap_other (by omega)]; exact h.block k hk⟩
theorem putObj_cell {W : World} {l : Nat} {a : Addr} (h : a.block ≠ l) (o : Obj) : (W.putObj l o).cell? a = W.cell? a := World.cell?_of_block (World.putObj_heap_other h)
theorem no_cell {W : World} {l : Nat} {r : Loop} (h : W.heap[l]? = some (Obj.loop r)) (j : Nat) : W.cell? ⟨l, j, none⟩ = none := by
  simp [World.cell?, h]
theorem no_cellD {W : World} {l : Nat} {r : Option (List Deferred)} (h : W.heap[l]? = some (Obj.deferred r)) (j : Nat) : W.cell? ⟨l, j, none⟩ = none := by
  simp [World.cell?, h]
theorem SlX.put {α : Type} [Row α] {W : World} {v : Value} {ls : List α} {l : Nat} (S : SlX W v ls) (h : ∀ j, W.cell? ⟨l, j, none⟩ = none) (o : Obj) : SlX (W.putObj l o) v ls := by
  rcases S with S | ⟨b, off, cap, rfl, hR, hl⟩
  · exact .inl S
  · by_cases h0 : ls.length = 0
    · obtain rfl := List.length_eq_zero_iff.1 h0
      exact .inl ⟨_, cap, rfl, rfl⟩
    · have hp : 0 < Row.k α := Row.pos
      have hne : b ≠ l := by
        rintro rfl
        have := hR 0 (by omega) 0 hp
        rw [h, List.getElem?_eq_getElem (by rw [Row.len]; exact hp)] at this
        cases this
      exact .inr ⟨b, off, cap, rfl, fun i hi j hj => by rw [putObj_cell hne]; exact hR i hi j hj, by rw [World.putObj_size]; exact hl⟩
theorem RdAt.put {W : World} {b l : Nat} {r : Rg.Rd} {lp : Loop} (h : RdAt W b r) (hl : W.heap[l]? = some (Obj.loop lp)) (o : Obj) : RdAt (W.putObj l o) b r := by
  obtain ⟨v, h1, h2⟩ := h
  refine ⟨v, ?_, h2.put (no_cell hl) o⟩
  rw [World.putObj_heap_other (by rintro rfl; rw [h1] at hl; cases hl)]; exact h1
theorem Res3.put {B l : Nat} {v : Value} {n c : Int} {W : World} (h : Res3 B v n c W) (hl : B + 2 < l) (o : Obj) : Res3 B v n c (W.putObj l o) :=
  ⟨by rw [World.putObj_heap_other (by omega)]; exact h.c1, by rw [World.putObj_heap_other (by omega)]; exact h.c2, by rw [World.putObj_heap_other (by omega)]; exact h.c3⟩
theorem Res3.sav {B b : Nat} {v : Value} {n c : Int} {W W' : World} (h : Res3 B v n c W) (hs : Sav b W W') (hb : B + 2 < b) : Res3 B v n c W' :=
  have l3 := (Array.getElem?_eq_some_iff.1 h.c3).1
  ⟨by rw [hs.block _ (by omega) (by omega)]; exact h.c1, by rw [hs.block _ (by omega) (by omega)]; exact h.c2, by rw [hs.block _ (by omega) (by omega)]; exact h.c3⟩
theorem Res3.set {B : Nat} {v : Value} {n c : Int} {W : World} (h : Res3 B v n c W) (v' : Value) (n' c' : Int) : Res3 B v' n' c' (((W.setCell ⟨B, 0, none⟩ v').setCell ⟨B + 1, 0, none⟩ (.int .i64 n')).setCell ⟨B + 2, 0, none⟩ (.int .i64 c')) := by
  refine ⟨?_, ?_, ?_⟩
  · exact (heap_setCell_other _ _ _ _ (show B ≠ B + 2 by omega)).trans ((heap_setCell_other _ _ _ _ (show B ≠ B + 1 by omega)).trans (heap_setCell_same W B 0 _ _ v' h.c1))
  · exact (heap_setCell_other _ _ _ _ (show B + 1 ≠ B + 2 by omega)).trans (heap_setCell_same _ (B + 1) 0 _ _ (.int .i64 n') ((heap_setCell_other _ _ _ _ (show B + 1 ≠ B by omega)).trans h.c2))
  · exact heap_setCell_same _ (B + 2) 0 _ _ (.int .i64 c') ((heap_setCell_other _ _ _ _ (show B + 2 ≠ B + 1 by omega)).trans ((heap_setCell_other _ _ _ _ (show B + 2 ≠ B by omega)).trans h.c3))
/-- What Load's frame holds between two rounds. -/
structure LdI (w0 W : World) (l : Nat) (lp : Loop) : Prop where
  r : Res3 w0.heap.size (.slice none 0 0) 0 0 W
  t : W.cell? ⟨w0.heap.size + 4, 0, none⟩ = some (.pointer (some ⟨w0.heap.size + 3, 0, none⟩))
  c : W.cell? ⟨w0.heap.size + 5, 0, none⟩ = some (.pointer (some ⟨w0.heap.size + 3, 0, none⟩))
  w : Below w0.heap.size w0 W
  d : W.heap[w0.heap.size + 6]? = some (Obj.deferred (some []))
  e : l = w0.heap.size + 7
  lp : W.heap[l]? = some (Obj.loop lp)
theorem LdI.sav {w0 W W' : World} {l : Nat} {lp : Loop} (j : LdI w0 W l lp) (hs : Sav (w0.heap.size + 3) W W') : LdI w0 W' l lp := by
  have hl := (Array.getElem?_eq_some_iff.1 j.lp).1
  have e := j.e
  refine ⟨j.r.sav hs (by omega), ?_, ?_, j.w.trans (hs.below (by omega) j.w.size), ?_, e, ?_⟩
  · rw [World.cell?_of_block (hs.block (w0.heap.size + 4) (by omega) (by omega))]; exact j.t
  · rw [World.cell?_of_block (hs.block (w0.heap.size + 5) (by omega) (by omega))]; exact j.c
  · rw [hs.block _ (by omega) (by omega)]; exact j.d
  · rw [hs.block _ hl (by omega)]; exact j.lp
theorem LdI.put {w0 W : World} {l : Nat} {lp : Loop} (j : LdI w0 W l lp) (lp' : Loop) : LdI w0 (W.putObj l (Obj.loop lp')) l lp' := by
  have hl := (Array.getElem?_eq_some_iff.1 j.lp).1
  have e := j.e
  subst e
  exact ⟨j.r.put (by omega) _, by rw [putObj_cell (by simp)]; exact j.t, by rw [putObj_cell (by simp)]; exact j.c, putObj_below j.w (by omega) _,
    by rw [World.putObj_heap_other (by omega)]; exact j.d, rfl, World.putObj_heap_same hl⟩
end Go.Proofs.Wk
/- REGISTERS OF LOTS: Load, walked. -/
namespace Go.Proofs.Wk
open Go.RowKit Go.Rng Mt
attribute [local go_sem] Oper.semAt_some

/-- Where Load begins its loop. -/
structure LdS (w0 W : World) (s : Txt) : Prop where
  r : Res3 w0.heap.size (.slice none 0 0) 0 0 W
  t : W.cell? ⟨w0.heap.size + 4, 0, none⟩ = some (.pointer (some ⟨w0.heap.size + 3, 0, none⟩))
  c : W.cell? ⟨w0.heap.size + 5, 0, none⟩ = some (.pointer (some ⟨w0.heap.size + 3, 0, none⟩))
  w : Below w0.heap.size w0 W
  size : W.heap.size = w0.heap.size + 6
  rd : RdAt W (w0.heap.size + 3) (Rg.rd0 s)
theorem ld_start (w : World) (s : Txt) : LdS w ((((((w.alloc (.cells #[.slice none 0 0] 37)).alloc (.cells #[.int .i64 0] 3)).alloc (.cells #[.int .i64 0] 31)).alloc
    (.cells #[.slice none 0 0, .int .i64 0, .int .i64 1, .string ⟨s.toArray⟩] 81)).alloc (.cells #[.pointer (some ⟨w.heap.size + 3, 0, none⟩)] 79)).alloc (.cells #[.pointer (some ⟨w.heap.size + 3, 0, none⟩)] 79)) s := by
  have r3 := res3_new w 0
  have s3 : (((w.alloc (.cells #[.slice none 0 0] 37)).alloc (.cells #[.int .i64 0] 3)).alloc (.cells #[.int .i64 0] 31)).heap.size = w.heap.size + 3 := by simp
  have b3 : Below w.heap.size w (((w.alloc (.cells #[.slice none 0 0] 37)).alloc (.cells #[.int .i64 0] 3)).alloc (.cells #[.int .i64 0] 31)) := (((Below.refl _ _).alloc (Nat.le_refl _) _).alloc (by simp) _).alloc (by simp; omega) _
  generalize ((w.alloc (.cells #[.slice none 0 0] 37)).alloc (.cells #[.int .i64 0] 3)).alloc (.cells #[.int .i64 0] 31) = W3 at *
  have h4 := heap_alloc_new W3 (.cells #[.slice none 0 0, .int .i64 0, .int .i64 1, .string ⟨s.toArray⟩] 81)
  have b4 : Below W3.heap.size W3 (W3.alloc (.cells #[.slice none 0 0, .int .i64 0, .int .i64 1, .string ⟨s.toArray⟩] 81)) := (Below.refl _ _).alloc (Nat.le_refl _) _
  have s4 : (W3.alloc (.cells #[.slice none 0 0, .int .i64 0, .int .i64 1, .string ⟨s.toArray⟩] 81)).heap.size = w.heap.size + 4 := by simp; omega
  rw [s3] at h4
  generalize W3.alloc (.cells #[.slice none 0 0, .int .i64 0, .int .i64 1, .string ⟨s.toArray⟩] 81) = W4 at *
  have rd4 : RdAt W4 (w.heap.size + 3) (Rg.rd0 s) := ⟨_, h4, .inl ⟨none, 0, rfl, rfl⟩⟩
  have h5 := heap_alloc_new W4 (.cells #[.pointer (some ⟨w.heap.size + 3, 0, none⟩)] 79)
  have b5 : Below W4.heap.size W4 (W4.alloc (.cells #[.pointer (some ⟨w.heap.size + 3, 0, none⟩)] 79)) := (Below.refl _ _).alloc (Nat.le_refl _) _
  have s5 : (W4.alloc (.cells #[.pointer (some ⟨w.heap.size + 3, 0, none⟩)] 79)).heap.size = w.heap.size + 5 := by simp; omega
  rw [s4] at h5
  generalize W4.alloc (.cells #[.pointer (some ⟨w.heap.size + 3, 0, none⟩)] 79) = W5 at *
  have h6 := heap_alloc_new W5 (.cells #[.pointer (some ⟨w.heap.size + 3, 0, none⟩)] 79)
  have b6 : Below W5.heap.size W5 (W5.alloc (.cells #[.pointer (some ⟨w.heap.size + 3, 0, none⟩)] 79)) := (Below.refl _ _).alloc (Nat.le_refl _) _
  have s6 : (W5.alloc (.cells #[.pointer (some ⟨w.heap.size + 3, 0, none⟩)] 79)).heap.size = w.heap.size + 6 := by simp; omega
  rw [s5] at h6
  generalize W5.alloc (.cells #[.pointer (some ⟨w.heap.size + 3, 0, none⟩)] 79) = W6 at *
  have b36 : Below W3.heap.size W3 W6 := (b4.trans (b5.mono b4.size)).trans (b6.mono (b4.trans (b5.mono b4.size)).size)
  refine ⟨r3.sav (b := w.heap.size + 3) (Below.sav b36) (by omega), ?_, cell1 h6, b3.trans (b36.mono b3.size), s6, (rd4.later b5).later b6⟩
  rw [World.cell?_of_block (b6.block (w.heap.size + 4) (by omega))]
  exact cell1 h5
theorem Res3.slx {B : Nat} {v u : Value} {n c : Int} {W : World} {ls : List Rg.Lt} (h : Res3 B v n c W) (S : SlX W u ls) (v' : Value) (n' c' : Int) :
    SlX (((W.setCell ⟨B, 0, none⟩ v').setCell ⟨B + 1, 0, none⟩ (.int .i64 n')).setCell ⟨B + 2, 0, none⟩ (.int .i64 c')) u ls := by
  have s1 : SlX (W.setCell ⟨B, 0, none⟩ v') u ls := S.sav h.c1 (show 1 < 7 by decide) (Sav.set B W 0 v')
  have h2 : (W.setCell ⟨B, 0, none⟩ v').heap[B + 1]? = some (.cells #[.int .i64 n] 3 (0, 0)) := (heap_setCell_other _ _ _ _ (show B + 1 ≠ B by omega)).trans h.c2
  have s2 : SlX ((W.setCell ⟨B, 0, none⟩ v').setCell ⟨B + 1, 0, none⟩ (.int .i64 n')) u ls := s1.sav h2 (show 1 < 7 by decide) (Sav.set (B + 1) _ 0 _)
  have h3 : ((W.setCell ⟨B, 0, none⟩ v').setCell ⟨B + 1, 0, none⟩ (.int .i64 n')).heap[B + 2]? = some (.cells #[.int .i64 c] 31 (0, 0)) :=
    (heap_setCell_other _ _ _ _ (show B + 2 ≠ B + 1 by omega)).trans ((heap_setCell_other _ _ _ _ (show B + 2 ≠ B by omega)).trans h.c3)
  exact s2.sav h3 (show 1 < 7 by decide) (Sav.set (B + 2) _ 0 _)
/-- What is left where all was read. -/
structure LdF (w W W' : World) (v : Value) (ls : List Rg.Lt) (n : Int) : Prop where
  d : W.heap[w.heap.size + 6]? = some (Obj.deferred (some []))
  r : Res3 w.heap.size v n 0 W'
  s : SlX W' v ls
  w : Below w.heap.size w W'
theorem LdI.found {w W : World} {l : Nat} {lp : Loop} (j : LdI w W l lp) {v : Value} {ls : List Rg.Lt} (S : SlX W v ls) (n : Int) :
    LdF w (((W.setCell ⟨w.heap.size, 0, none⟩ v).setCell ⟨w.heap.size + 1, 0, none⟩ (.int .i64 n)).setCell ⟨w.heap.size + 2, 0, none⟩ (.int .i64 0)).drew
      ((((W.setCell ⟨w.heap.size, 0, none⟩ v).setCell ⟨w.heap.size + 1, 0, none⟩ (.int .i64 n)).setCell ⟨w.heap.size + 2, 0, none⟩ (.int .i64 0)).drew.putObj (w.heap.size + 6) (.deferred none)) v ls n := by
  have hr := j.r.set v n 0
  have hs := j.r.slx S v n 0
  have hb : Below w.heap.size w (((W.setCell ⟨w.heap.size, 0, none⟩ v).setCell ⟨w.heap.size + 1, 0, none⟩ (.int .i64 n)).setCell ⟨w.heap.size + 2, 0, none⟩ (.int .i64 0)) :=
    Below.cellP (Below.cellP (Below.cellP j.w (Nat.le_refl _) _) (Nat.le_add_right _ _) _) (Nat.le_add_right _ _) _
  have h6 : (((W.setCell ⟨w.heap.size, 0, none⟩ v).setCell ⟨w.heap.size + 1, 0, none⟩ (.int .i64 n)).setCell ⟨w.heap.size + 2, 0, none⟩ (.int .i64 0)).heap[w.heap.size + 6]? = some (Obj.deferred (some [])) :=
    (heap_setCell_other _ _ _ _ (show w.heap.size + 6 ≠ w.heap.size + 2 by omega)).trans ((heap_setCell_other _ _ _ _ (show w.heap.size + 6 ≠ w.heap.size + 1 by omega)).trans ((heap_setCell_other _ _ _ _ (show w.heap.size + 6 ≠ w.heap.size by omega)).trans j.d))
  generalize ((W.setCell ⟨w.heap.size, 0, none⟩ v).setCell ⟨w.heap.size + 1, 0, none⟩ (.int .i64 n)).setCell ⟨w.heap.size + 2, 0, none⟩ (.int .i64 0) = W3 at *
  have hrd : Res3 w.heap.size v n 0 W3.drew := ⟨hr.c1, hr.c2, hr.c3⟩
  have hsd : SlX W3.drew v ls := hs.later (Below.refl _ _).drew
  have h6d : W3.drew.heap[w.heap.size + 6]? = some (Obj.deferred (some [])) := h6
  exact ⟨h6d, hrd.put (by omega) _, hsd.put (no_cellD h6d) _, putObj_below (below_dr hb) (by omega) _⟩
/-- What Load reads behind its loop. -/
def KS (w W : World) (v : Value) (n : Nat) : Prop := W.cell? ⟨w.heap.size + 4, 0, none⟩ = some (.pointer (some ⟨w.heap.size + 3, 0, none⟩)) ∧ W.cell? ⟨w.heap.size + 3, 0, none⟩ = some v ∧ W.cell? ⟨w.heap.size + 3, 1, none⟩ = some (.int .i64 (n : Int))
theorem KS.set {w W : World} {v : Value} {n : Nat} (h : KS w W v n) {a : Addr} (ha : a.block ≤ w.heap.size + 2) (x : Value) : KS w (W.setCell a x) v n := by
  obtain ⟨h1, h2, h3⟩ := h
  refine ⟨?_, ?_, ?_⟩
  · rw [World.cell?_setCell_other _ _ _ _ (by rintro rfl; simp at ha)]; exact h1
  · rw [World.cell?_setCell_other _ _ _ _ (by rintro rfl; simp at ha)]; exact h2
  · rw [World.cell?_setCell_other _ _ _ _ (by rintro rfl; simp at ha)]; exact h3
/-- What is left when a line with an error was met. -/
def LdX (w : World) (lp : LoopState → Option Code → Loop) (r : Rg.Rd) (c : Int) (W : World) : Prop :=
  Res3 w.heap.size (.slice none 0 0) (r.n : Int) c W ∧ Below w.heap.size w W ∧ W.heap[w.heap.size + 6]? = some (Obj.deferred (some [])) ∧ W.heap[w.heap.size + 7]? = some (Obj.loop (lp .done (some .ret)))
theorem LdI.failed {w W : World} {l : Nat} {lp : LoopState → Option Code → Loop} (j : LdI w W l (lp .busy none)) (r : Rg.Rd) (c : Int) (a : Act) :
    endOf l lp (YdF (LdX w lp) r c) .ret a (((W.setCell ⟨w.heap.size, 0, none⟩ (.slice none 0 0)).setCell ⟨w.heap.size + 1, 0, none⟩ (.int .i64 (r.n : Int))).setCell ⟨w.heap.size + 2, 0, none⟩ (.int .i64 c)).drew := by
  have e := j.e
  subst e
  have hr := j.r.set (.slice none 0 0) (r.n : Int) c
  have hb : Below w.heap.size w (((W.setCell ⟨w.heap.size, 0, none⟩ (.slice none 0 0)).setCell ⟨w.heap.size + 1, 0, none⟩ (.int .i64 (r.n : Int))).setCell ⟨w.heap.size + 2, 0, none⟩ (.int .i64 c)) :=
    Below.cellP (Below.cellP (Below.cellP j.w (Nat.le_refl _) _) (Nat.le_add_right _ _) _) (Nat.le_add_right _ _) _
  have ho : ∀ k, w.heap.size + 2 < k → (((W.setCell ⟨w.heap.size, 0, none⟩ (.slice none 0 0)).setCell ⟨w.heap.size + 1, 0, none⟩ (.int .i64 (r.n : Int))).setCell ⟨w.heap.size + 2, 0, none⟩ (.int .i64 c)).heap[k]? = W.heap[k]? := fun k hk =>
    (heap_setCell_other _ _ _ _ (show k ≠ w.heap.size + 2 by omega)).trans ((heap_setCell_other _ _ _ _ (show k ≠ w.heap.size + 1 by omega)).trans (heap_setCell_other _ _ _ _ (show k ≠ w.heap.size by omega)))
  have h6 := (ho (w.heap.size + 6) (by omega)).trans j.d
  have h7 := (ho (w.heap.size + 7) (by omega)).trans j.lp
  generalize ((W.setCell ⟨w.heap.size, 0, none⟩ (.slice none 0 0)).setCell ⟨w.heap.size + 1, 0, none⟩ (.int .i64 (r.n : Int))).setCell ⟨w.heap.size + 2, 0, none⟩ (.int .i64 c) = W3 at *
  have hrd : Res3 w.heap.size (.slice none 0 0) (r.n : Int) c W3.drew := ⟨hr.c1, hr.c2, hr.c3⟩
  refine ⟨h7, rfl, hrd.put (by omega) _, putObj_below (below_dr hb) (by omega) _, ?_, World.putObj_heap_same (show w.heap.size + 7 < W3.heap.size from (Array.getElem?_eq_some_iff.1 h7).1)⟩
  rw [World.putObj_heap_other (by omega)]; exact h6
set_option maxRecDepth 100000 in
set_option maxHeartbeats 4000000 in
theorem load_main (s : Txt) (w : World) (hg : GoodS w) (hm : s.length ≤ 262144) : Calls Tryz.prog 11 #[.string ⟨s.toArray⟩] w (AllP w (Rg.loadL s)) := by
  have hL : Rg.loadL s = if (Rg.runS (Rg.rd0 s)).2 ≠ 0 then ([], ((Rg.runS (Rg.rd0 s)).1.n : Int), (Rg.runS (Rg.rd0 s)).2) else ((Rg.runS (Rg.rd0 s)).1.lots, ((Rg.runS (Rg.rd0 s)).1.n : Int), 0) := by
    unfold Rg.loadL; rw [if_neg (by omega)]
  have i1 : ¬ (262144 : Int) < (s.length : Int) := by omega
  have HL := Lib.hid hL
  generalize Rg.loadL s = L at *
  have HF := Lib.hid (fun b W => readFn_c b W)
  have HG := Lib.hid (fun W (hb : Below w.heap.size w W) => hg.later hb)
  clear hL hg
  refine calls_marks Tryz.func11 rfl ?_
  simp only [Tryz.ntmps11, List.size_toArray, List.length_cons, List.length_nil, Nat.reduceAdd, Nat.reduceSub, Array.replicate_succ, Array.replicate_zero, List.push_toArray, List.append_toArray, List.nil_append, List.cons_append]
  go_wp2_with fail
  ((with_reducible refine (HF.out _ _).mono ?_); rintro e w' ⟨rfl, rfl⟩)
  go_wp2_with fail
  have hs := ld_start w s
  simp only [Nat.add_assoc, Nat.reduceAdd]
  generalize ((((((w.alloc (.cells #[.slice none 0 0] 37)).alloc (.cells #[.int .i64 0] 3)).alloc (.cells #[.int .i64 0] 31)).alloc
    (.cells #[.slice none 0 0, .int .i64 0, .int .i64 1, .string ⟨s.toArray⟩] 81)).alloc (.cells #[.pointer (some ⟨w.heap.size + 3, 0, none⟩)] 79)).alloc (.cells #[.pointer (some ⟨w.heap.size + 3, 0, none⟩)] 79)) = W6 at *
  have hsz := hs.size
  have HS := Lib.hid hs
  clear hs
  refine range_named (gf := 58) (lb := #[.pointer (some ⟨w.heap.size + 5, 0, none⟩)]) rfl (enters_of Tryz.func58 (by kernel_rfl) rfl) (fun fn lp hlp => ?_)
  rw [hsz]
  have HLP := Lib.hid hlp
  have hb6 : Below W6.heap.size W6 ((W6.alloc (.deferred (some []))).alloc (.loop (lp .ready none))) := ((Below.refl _ _).alloc (Nat.le_refl _) _).alloc (by simp) _
  have h7 : ((W6.alloc (.deferred (some []))).alloc (.loop (lp .ready none))).heap[w.heap.size + 7]? = some (.loop (lp .ready none)) := by
    have := heap_alloc_new (W6.alloc (.deferred (some []))) (.loop (lp .ready none))
    rwa [World.size_alloc, hsz] at this
  have h6 : ((W6.alloc (.deferred (some []))).alloc (.loop (lp .ready none))).heap[w.heap.size + 6]? = some (.deferred (some [])) := by
    have := heap_alloc_new W6 (.deferred (some []))
    rw [hsz] at this
    rw [heap_older (by rw [World.size_alloc]; omega)]; exact this
  have hj : LdI w ((W6.alloc (.deferred (some []))).alloc (.loop (lp .ready none))) (w.heap.size + 7) (lp .ready none) :=
    ⟨HS.out.r.sav (b := w.heap.size + 3) (Below.sav hb6) (by omega), by rw [hb6.cell (p := ⟨w.heap.size + 4, 0, none⟩) (by rw [hsz]; simp)]; exact HS.out.t, by rw [hb6.cell (p := ⟨w.heap.size + 5, 0, none⟩) (by rw [hsz]; simp)]; exact HS.out.c,
      HS.out.w.trans (hb6.mono HS.out.w.size), h6, rfl, h7⟩
  have hrd := HS.out.rd.later hb6
  generalize (W6.alloc (.deferred (some []))).alloc (.loop (lp .ready none)) = W8 at *
  clear hb6 h7 h6 HS hlp hsz
  refine (reader_in (w.heap.size + 5) (w.heap.size + 3) (w.heap.size + 7) (fun W => LdI w W (w.heap.size + 7) (lp .ready none))
    (LdX w lp)
    (fun W1 W2 h k => h.sav k) (fun W1 h => ⟨HG.out _ h.w, h.c⟩) ?go ?st (Rg.rd0 s) W8 hrd (Rg.rd0_ok s) hj (by show s.length ≤ 600000; omega)).mono ?_
  case go =>
    intro r W1 hr hj1
    have hput := hj1.put (lp .busy none)
    have hrp := hr.put hj1.lp (Obj.loop (lp .busy none))
    have HJ1 := Lib.hid hj1
    apply yield_named HLP.out HJ1.out.lp rfl
    · intro K hK
      gi_wp2
      exact hK
    · generalize W1.putObj (w.heap.size + 7) (.loop (lp .busy none)) = W2 at *
      have HP := Lib.hid hput
      have HR := Lib.hid hrp
      clear hput hrp hj1 hr
      gi_wp2
      exact ⟨HP.out.lp, rfl, HR.out.put HP.out.lp _, HP.out.put _⟩
  case st =>
    intro r c W1 hc hr hj1
    have hput := hj1.put (lp .busy none)
    have hrp := hr.put hj1.lp (Obj.loop (lp .busy none))
    have HJ1 := Lib.hid hj1
    have y1 : (c != 0) = true := bne_iff_ne.2 hc
    clear hc
    apply yield_named HLP.out HJ1.out.lp rfl
    · intro K hK
      gi_wp2
      exact hK
    · generalize W1.putObj (w.heap.size + 7) (.loop (lp .busy none)) = W2 at *
      have HP := Lib.hid hput
      obtain ⟨v, hb0, -⟩ := hrp
      obtain ⟨d0, d1, d2, d3⟩ := cell4 hb0
      have c0 := HP.out.t
      have r1 := cell1 HP.out.r.c1
      have r2 := cell1 HP.out.r.c2
      have r3 := cell1 HP.out.r.c3
      have z1 := frozen_of_row W2 w.heap.size 0 _ _ HP.out.r.c1
      have z2 := frozen_of_row W2 (w.heap.size + 1) 0 _ _ HP.out.r.c2
      have z3 := frozen_of_row W2 (w.heap.size + 2) 0 _ _ HP.out.r.c3
      clear hput hj1 hr hb0
      gi_wp2_with fail
      gi_region
      all_goals gi_wp2
      all_goals exact HP.out.failed _ _ _
  · rintro e W2 ⟨hv, hh⟩
    refine ⟨hv, ?_⟩
    rcases hh with ⟨h0, hr2, hj2⟩ | ⟨h0, hx⟩
    · have hl := HL.out
      rw [if_neg (by rw [h0]; simp)] at hl
      have HLL := Lib.hid hl
      refine ⟨.ready, none, hj2.lp, by decide, ?_⟩
      have hjp := hj2.put (lp .exhausted none)
      have hrp := hr2.put hj2.lp (Obj.loop (lp .exhausted none))
      simp only [After]
      clear hl HL h0 hr2 hj2
      generalize W2.putObj (w.heap.size + 7) (.loop (lp .exhausted none)) = W3 at *
      generalize (Rg.runS (Rg.rd0 s)).1 = r at *
      obtain ⟨v, hb0, hsl⟩ := hrp
      obtain ⟨va, vc, rfl⟩ := hsl.shape
      obtain ⟨d0, d1, d2, d3⟩ := cell4 hb0
      have c0 := hjp.t
      have r1 := cell1 hjp.r.c1
      have r2 := cell1 hjp.r.c2
      have r3 := cell1 hjp.r.c3
      have z1 := frozen_of_row W3 w.heap.size 0 _ _ hjp.r.c1
      have z2 := frozen_of_row W3 (w.heap.size + 1) 0 _ _ hjp.r.c2
      have z3 := frozen_of_row W3 (w.heap.size + 2) 0 _ _ hjp.r.c3
      have HJP := Lib.hid hjp
      have HSL := Lib.hid hsl
      have KK := Lib.hid (fun (a : Addr) (x : Value) (W : World) (ha : a.block ≤ w.heap.size + 2) (h : KS w W (.slice va r.lots.length vc) r.n) => h.set ha x)
      have KS0 := Lib.hid (show KS w W3.drew (.slice va r.lots.length vc) r.n from ⟨c0, d0, d1⟩)
      clear hjp hb0 hsl hj hrd
      go_wp2_with fail
      go_region_held3 (fun W' => W'.cell? ⟨w.heap.size + 4, 0, none⟩ = some (.pointer (some ⟨w.heap.size + 3, 0, none⟩)) ∧ W'.cell? ⟨w.heap.size + 3, 0, none⟩ = some (.slice va r.lots.length vc) ∧ W'.cell? ⟨w.heap.size + 3, 1, none⟩ = some (.int .i64 (r.n : Int)))
        (first | exact KS0.out | exact KK.out _ _ _ (by simp) KS0.out | exact KK.out _ _ _ (by simp) (KK.out _ _ _ (by simp) KS0.out) | exact KK.out _ _ _ (by simp) (KK.out _ _ _ (by simp) (KK.out _ _ _ (by simp) KS0.out)))
        (fail)
      all_goals go_wp2
      all_goals
        have f := HJP.out.found HSL.out (r.n : Int)
        refine postM_ret1 rfl f.d (res3_run _ _ w.heap.size _ _ _ f.r rfl rfl rfl) ?_
        rw [HLL.out]
        exact ⟨_, rfl, f.s, f.w⟩
    · have hl := HL.out
      rw [if_pos h0] at hl
      have HLL := Lib.hid hl
      obtain ⟨hr3, hbw, hd6, hl7⟩ := hx
      refine ⟨.done, some .ret, hl7, by decide, ?_⟩
      have hr4 := hr3.put (show w.heap.size + 2 < w.heap.size + 7 by omega) (Obj.loop (lp .exhausted (some .ret)))
      have hb4 := putObj_below hbw (show w.heap.size ≤ w.heap.size + 7 by omega) (Obj.loop (lp .exhausted (some .ret)))
      have hd4 : (W2.putObj (w.heap.size + 7) (Obj.loop (lp .exhausted (some .ret)))).heap[w.heap.size + 6]? = some (Obj.deferred (some [])) := by rw [World.putObj_heap_other (by omega)]; exact hd6
      simp only [After]
      clear hl HL h0 hr3 hbw hd6 hl7 hj hrd
      generalize W2.putObj (w.heap.size + 7) (.loop (lp .exhausted (some .ret))) = W3 at *
      go_wp2
      (try simp only [Exit.inBlock, Exit.then])
      refine postM_ret1 rfl hd4 (res3_run _ _ w.heap.size _ _ _ (hr4.put (by omega) _) rfl rfl rfl) ?_
      rw [HLL.out]
      exact ⟨_, rfl, .inl ⟨none, 0, rfl, rfl⟩, putObj_below hb4 (by omega) _⟩
theorem Load_c (s : Txt) (w : World) (hg : GoodS w) (hl : s.length ≤ 600000) : Calls Tryz.prog 11 #[.string ⟨s.toArray⟩] w (AllP w (Rg.loadL s)) := by
  by_cases hm : 262144 < s.length
  · rw [show Rg.loadL s = ([], 0, 17) by unfold Rg.loadL; rw [if_pos hm]]
    exact load_long s w hl hm
  · exact load_main s w hg (by omega)
end Go.Proofs.Wk
/- REGISTERS OF LOTS: Repair, walked. -/
namespace Go.Proofs.Wk
open Go.RowKit Go.Rng Mt
attribute [local go_sem] Oper.semAt_some

theorem results_tmp1 {fn : Func} {t : Tmp} (h : fn.results = #[.tmp t]) (tmps : Array Value) (P : Program) (w : World) :
    (results fn tmps).run P w = .ok (tmps.getD t undef) w := by
  simp [results, h, go_sem]
/-- What Repair's frame holds between two rounds. -/
structure RpI (w0 W : World) (l : Nat) (lp : Loop) : Prop where
  c : W.cell? ⟨w0.heap.size + 1, 0, none⟩ = some (.pointer (some ⟨w0.heap.size, 0, none⟩))
  w : Below w0.heap.size w0 W
  d : W.heap[w0.heap.size + 2]? = some (Obj.deferred (some []))
  e : l = w0.heap.size + 3
  lp : W.heap[l]? = some (Obj.loop lp)
theorem RpI.sav {w0 W W' : World} {l : Nat} {lp : Loop} (j : RpI w0 W l lp) (hs : Sav w0.heap.size W W') : RpI w0 W' l lp := by
  have hl := (Array.getElem?_eq_some_iff.1 j.lp).1
  have e := j.e
  refine ⟨?_, j.w.trans (hs.below (Nat.le_refl _) j.w.size), ?_, e, ?_⟩
  · rw [World.cell?_of_block (hs.block (w0.heap.size + 1) (by omega) (by omega))]; exact j.c
  · rw [hs.block _ (by omega) (by omega)]; exact j.d
  · rw [hs.block _ hl (by omega)]; exact j.lp
theorem RpI.put {w0 W : World} {l : Nat} {lp : Loop} (j : RpI w0 W l lp) (lp' : Loop) : RpI w0 (W.putObj l (Obj.loop lp')) l lp' := by
  have hl := (Array.getElem?_eq_some_iff.1 j.lp).1
  have e := j.e
  subst e
  exact ⟨by rw [putObj_cell (by simp)]; exact j.c, putObj_below j.w (by omega) _, by rw [World.putObj_heap_other (by omega)]; exact j.d, rfl, World.putObj_heap_same hl⟩
structure RpS (w0 W : World) (s : Txt) : Prop where
  c : W.cell? ⟨w0.heap.size + 1, 0, none⟩ = some (.pointer (some ⟨w0.heap.size, 0, none⟩))
  w : Below w0.heap.size w0 W
  size : W.heap.size = w0.heap.size + 2
  rd : RdAt W w0.heap.size (Rg.rd0 s)
theorem rp_start (w : World) (s : Txt) : RpS w ((w.alloc (.cells #[.slice none 0 0, .int .i64 0, .int .i64 1, .string ⟨s.toArray⟩] 81)).alloc (.cells #[.pointer (some ⟨w.heap.size, 0, none⟩)] 79)) s := by
  have h4 := heap_alloc_new w (.cells #[.slice none 0 0, .int .i64 0, .int .i64 1, .string ⟨s.toArray⟩] 81)
  have b4 : Below w.heap.size w (w.alloc (.cells #[.slice none 0 0, .int .i64 0, .int .i64 1, .string ⟨s.toArray⟩] 81)) := (Below.refl _ _).alloc (Nat.le_refl _) _
  have s4 : (w.alloc (.cells #[.slice none 0 0, .int .i64 0, .int .i64 1, .string ⟨s.toArray⟩] 81)).heap.size = w.heap.size + 1 := by simp
  generalize w.alloc (.cells #[.slice none 0 0, .int .i64 0, .int .i64 1, .string ⟨s.toArray⟩] 81) = W4 at *
  have rd4 : RdAt W4 w.heap.size (Rg.rd0 s) := ⟨_, h4, .inl ⟨none, 0, rfl, rfl⟩⟩
  have h5 := heap_alloc_new W4 (.cells #[.pointer (some ⟨w.heap.size, 0, none⟩)] 79)
  have b5 : Below W4.heap.size W4 (W4.alloc (.cells #[.pointer (some ⟨w.heap.size, 0, none⟩)] 79)) := (Below.refl _ _).alloc (Nat.le_refl _) _
  rw [s4] at h5
  exact ⟨cell1 h5, b4.trans (b5.mono b4.size), by simp; omega, rd4.later b5⟩
/-- What one round of Repair leaves. -/
def RpX (w : World) (b l : Nat) (lp : LoopState → Option Code → Loop) (r : Rg.Rd) (_ : Int) (W : World) : Prop := RdAt W b r ∧ RpI w W l (lp .done (some (.exit 0)))
end Go.Proofs.Wk
