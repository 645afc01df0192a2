/- SQUARENESS, FOR THE WALKS: points in space, their checks. -/
import Derived.Test.YtcdjhgkeehhaaaaGreatDoorNE
import Derived.Test.YtcdjhgkeehhaaaaGreatDoorOA
namespace Go.Proofs.Wk
open Go.RowKit Mt

abbrev spC (p : Or.P3) : List Value := [.int .i64 p.x, .int .i64 p.y, .int .i64 p.z]
abbrev spV (p : Or.P3) : Value := .agg #[.int .i64 p.x, .int .i64 p.y, .int .i64 p.z]
instance : Row Or.P3 where
  enc := spC
  k := 3
  len _ := rfl
  pos := by decide
  one a u hu := by
    simp only [spC, List.mem_cons, List.not_mem_nil, or_false] at hu
    rcases hu with rfl | rfl | rfl <;> rfl
theorem RX.sp {w : World} {b off : Nat} {ls : List Or.P3} (h : RX w b off ls) {i : Nat} (hi : i < ls.length) :
    w.cell? ⟨b, off + i * 3, none⟩ = some (.int .i64 (Or.at_ ls i).x) ∧ w.cell? ⟨b, off + i * 3 + 1, none⟩ = some (.int .i64 (Or.at_ ls i).y) ∧ w.cell? ⟨b, off + i * 3 + 2, none⟩ = some (.int .i64 (Or.at_ ls i).z) := by
  rw [Or.at_get hi]
  exact ⟨h i hi 0 (by decide), h i hi 1 (by decide), h i hi 2 (by decide)⟩
/-- A point in space that lies at an address. -/
structure SpAt (w : World) (b o : Nat) (p : Or.P3) : Prop where
  c0 : w.cell? ⟨b, o, none⟩ = some (.int .i64 p.x)
  c1 : w.cell? ⟨b, o + 1, none⟩ = some (.int .i64 p.y)
  c2 : w.cell? ⟨b, o + 2, none⟩ = some (.int .i64 p.z)
theorem SpAt.lt {w : World} {b o : Nat} {p : Or.P3} (h : SpAt w b o p) : b < w.heap.size := World.block_lt_of_cell? w _ h.c0
theorem SpAt.later {w w' : World} {b o : Nat} {p : Or.P3} (h : SpAt w b o p) (hb : Below w.heap.size w w') : SpAt w' b o p :=
  ⟨by rw [hb.cell (p := ⟨b, o, none⟩) h.lt]; exact h.c0, by rw [hb.cell (p := ⟨b, o + 1, none⟩) h.lt]; exact h.c1, by rw [hb.cell (p := ⟨b, o + 2, none⟩) h.lt]; exact h.c2⟩
theorem SpAt.drew {w : World} {b o : Nat} {p : Or.P3} (h : SpAt w b o p) : SpAt w.drew b o p := ⟨h.c0, h.c1, h.c2⟩
theorem SpAt.new (w : World) (p : Or.P3) (t : TypeId) : SpAt (w.alloc (.cells #[.int .i64 p.x, .int .i64 p.y, .int .i64 p.z] t)) w.heap.size 0 p :=
  ⟨by rw [cell_of_row _ _ _ _ _ _ (heap_alloc_new w _)]; rfl, by rw [cell_of_row _ _ _ _ _ _ (heap_alloc_new w _)]; rfl, by rw [cell_of_row _ _ _ _ _ _ (heap_alloc_new w _)]; rfl⟩
/-- A point in space in its range. -/
def InS (p : Or.P3) : Prop := (-100000 ≤ p.x ∧ p.x ≤ 100000) ∧ (-100000 ≤ p.y ∧ p.y ≤ 100000) ∧ (-100000 ≤ p.z ∧ p.z ≤ 100000)
instance (p : Or.P3) : Decidable (InS p) := by unfold InS; infer_instance
def inS (p : Or.P3) : Bool := decide (InS p)
def chkS (l : List Or.P3) : Int := if 64 < l.length then 5 else if l.all inS = true then 0 else 2
def allS (ls : List Or.P3) : Int := if ls.all inS = true then 0 else 2
end Go.Proofs.Wk
/- SQUARENESS: the errors of points with a direction. -/
namespace Go.Proofs.Wk
open Go.RowKit Mt

theorem sl1P (W : World) (a : St.Pt) (t : TypeId) : SlX (W.alloc (.cells #[.int .i64 a.x, .int .i64 a.y] t)) (.slice (some ⟨W.heap.size, 0, none⟩) 1 1) [a] :=
  .inr ⟨W.heap.size, 0, 1, rfl, RX.lit W [a] t, by simp⟩
theorem chkP_one (p : St.Pt) : St.chkP [p] = if St.inB p = true then 0 else 2 := by unfold St.chkP; simp
/-- The number of the error of points with a direction. -/
def flatE (l : List St.Pt) (d : St.Pt) : Int := if St.chkP l = 0 then (if St.inB d = true then (if l.length = 0 then 13 else if d = ⟨0, 0⟩ then 10 else 0) else 2) else St.chkP l
def highE (l : List Or.P3) (d : Or.P3) : Int := if chkS l = 0 then (if inS d = true then (if l.length = 0 then 13 else if d = ⟨0, 0, 0⟩ then 10 else 0) else 2) else chkS l
theorem flatE_ok {l : List St.Pt} {d : St.Pt} (h : flatE l d = 0) : 0 < l.length ∧ l.length ≤ 64 ∧ (∀ p ∈ l, St.InP p) ∧ St.InP d ∧ d ≠ ⟨0, 0⟩ := by
  unfold flatE at h
  split at h
  · rename_i h1
    split at h
    · rename_i h2
      split at h
      · cases h
      · rename_i h3
        split at h
        · cases h
        · rename_i h4
          have := St.chkP_in h1
          exact ⟨by omega, this.1, this.2, St.inB_iff.1 h2, h4⟩
    · cases h
  · rename_i h1; exact absurd h h1
set_option maxRecDepth 100000 in
set_option maxHeartbeats 1000000 in
theorem oflat_c {v : Value} (ls : List St.Pt) (d : St.Pt) (w : World) (S : SlX w v ls) (hln : ls.length ≤ 140737488355328) : Calls Tryz.prog 29 #[v, ptV d] w (Ret w (.int .i64 (flatE ls d))) := by
  have HK := Lib.hid (fun W (h : Below w.heap.size w W) => vCheck_c ls W (S.later h) hln)
  have HD := Lib.hid (fun W => by have := vCheck_c [d] (W.alloc (.cells #[.int .i64 d.x, .int .i64 d.y] 24)) (sl1P W d 24) (by simp); rwa [chkP_one] at this)
  have hA := below_al w (.cells #[.int .i64 d.x, .int .i64 d.y] 24)
  have hC := heap_alloc_new w (.cells #[.int .i64 d.x, .int .i64 d.y] 24)
  have hd : (d.x == 0 && d.y == 0) = decide (d = ⟨0, 0⟩) := pt_beq d ⟨0, 0⟩
  have pe := fun W => pt_eql d.x d.y 0 0 W
  unfold flatE
  generalize St.chkP ls = E at *
  generalize St.inB d = q at *
  obtain ⟨a, cap, rfl⟩ := S.len
  generalize ls.length = n at *
  obtain ⟨dx, dy⟩ := d
  simp only at hA hC hd pe HD
  simp only [St.Pt.mk.injEq] at hd ⊢
  generalize hz : (dx == 0 && dy == 0) = z at *
  have cs : w.heap.size < (w.alloc (.cells #[.int .i64 dx, .int .i64 dy] 24)).heap.size := by rw [World.size_alloc]; omega
  clear S hln
  by_cases hE : E = 0
  · subst hE
    rw [if_pos rfl]
    cases q with
    | false =>
      simp only [Bool.false_eq_true, if_false] at HD ⊢
      go_enter Tryz.func29, Tryz.ntmps29
      go_wp2_with fail
      ((with_reducible refine (HK.out _ hA).mono ?_); rintro e w1 ⟨rfl, hb1⟩)
      have hB1 := hA.nx hb1
      have hC1 := (hb1.block _ cs).trans hC
      have k1 := cell_of_row w1 w.heap.size 0 _ _ _ hC1
      have k2 := cell_of_row w1 w.heap.size 1 _ _ _ hC1
      skip
      simp only [List.getElem?_toArray, List.getElem?_cons_zero, List.getElem?_cons_succ] at k1 k2 
      clear hA hC cs hC1 hb1 HK
      go_wp2_with fail
      have hA2 := below_al w1 (.cells #[.int .i64 dx, .int .i64 dy] 24)
      ((with_reducible refine (HD.out _).mono ?_); rintro e w2 ⟨rfl, hb2⟩)
      have hB2 := (hB1.nx hA2).nx hb2
      have j1 := ((hA2.nx hb2).cell (World.block_lt_of_cell? w1 _ k1)).trans k1
      have j2 := ((hA2.nx hb2).cell (World.block_lt_of_cell? w1 _ k2)).trans k2
      skip
      clear k1 k2  hB1 hA2 hb2 HD
      go_wp2
      go_ret
      exact ⟨rfl, hB2⟩
    | true =>
      simp only [if_true] at HD ⊢
      by_cases hn : n = 0
      · rw [if_pos hn]
        subst hn
        go_enter Tryz.func29, Tryz.ntmps29
        go_wp2_with fail
        ((with_reducible refine (HK.out _ hA).mono ?_); rintro e w1 ⟨rfl, hb1⟩)
        have hB1 := hA.nx hb1
        have hC1 := (hb1.block _ cs).trans hC
        have k1 := cell_of_row w1 w.heap.size 0 _ _ _ hC1
        have k2 := cell_of_row w1 w.heap.size 1 _ _ _ hC1
        skip
        simp only [List.getElem?_toArray, List.getElem?_cons_zero, List.getElem?_cons_succ] at k1 k2 
        clear hA hC cs hC1 hb1 HK
        go_wp2_with fail
        have hA2 := below_al w1 (.cells #[.int .i64 dx, .int .i64 dy] 24)
        ((with_reducible refine (HD.out _).mono ?_); rintro e w2 ⟨rfl, hb2⟩)
        have hB2 := (hB1.nx hA2).nx hb2
        have j1 := ((hA2.nx hb2).cell (World.block_lt_of_cell? w1 _ k1)).trans k1
        have j2 := ((hA2.nx hb2).cell (World.block_lt_of_cell? w1 _ k2)).trans k2
        skip
        clear k1 k2  hB1 hA2 hb2 HD
        go_wp2
        go_ret
        exact ⟨rfl, hB2⟩
      · rw [if_neg hn]
        have zn : decide ((n : Int) = 0) = false := decide_eq_false (by omega)
        have zn2 : ((n : Int) == 0) = false := beq_eq_false_iff_ne.2 (by omega)
        have zn3 : ¬ (n : Int) = 0 := by omega
        cases z with
        | false =>
          rw [if_neg (of_decide_eq_false hd.symm)]
          clear hd hz
          go_enter Tryz.func29, Tryz.ntmps29
          go_wp2_with fail
          ((with_reducible refine (HK.out _ hA).mono ?_); rintro e w1 ⟨rfl, hb1⟩)
          have hB1 := hA.nx hb1
          have hC1 := (hb1.block _ cs).trans hC
          have k1 := cell_of_row w1 w.heap.size 0 _ _ _ hC1
          have k2 := cell_of_row w1 w.heap.size 1 _ _ _ hC1
          skip
          simp only [List.getElem?_toArray, List.getElem?_cons_zero, List.getElem?_cons_succ] at k1 k2 
          clear hA hC cs hC1 hb1 HK
          go_wp2_with fail
          have hA2 := below_al w1 (.cells #[.int .i64 dx, .int .i64 dy] 24)
          ((with_reducible refine (HD.out _).mono ?_); rintro e w2 ⟨rfl, hb2⟩)
          have hB2 := (hB1.nx hA2).nx hb2
          have j1 := ((hA2.nx hb2).cell (World.block_lt_of_cell? w1 _ k1)).trans k1
          have j2 := ((hA2.nx hb2).cell (World.block_lt_of_cell? w1 _ k2)).trans k2
          skip
          clear k1 k2  hB1 hA2 hb2 HD
          go_wp2
          go_ret
          exact ⟨rfl, hB2⟩
        | true =>
          rw [if_pos (of_decide_eq_true hd.symm)]
          clear hd hz
          go_enter Tryz.func29, Tryz.ntmps29
          go_wp2_with fail
          ((with_reducible refine (HK.out _ hA).mono ?_); rintro e w1 ⟨rfl, hb1⟩)
          have hB1 := hA.nx hb1
          have hC1 := (hb1.block _ cs).trans hC
          have k1 := cell_of_row w1 w.heap.size 0 _ _ _ hC1
          have k2 := cell_of_row w1 w.heap.size 1 _ _ _ hC1
          skip
          simp only [List.getElem?_toArray, List.getElem?_cons_zero, List.getElem?_cons_succ] at k1 k2 
          clear hA hC cs hC1 hb1 HK
          go_wp2_with fail
          have hA2 := below_al w1 (.cells #[.int .i64 dx, .int .i64 dy] 24)
          ((with_reducible refine (HD.out _).mono ?_); rintro e w2 ⟨rfl, hb2⟩)
          have hB2 := (hB1.nx hA2).nx hb2
          have j1 := ((hA2.nx hb2).cell (World.block_lt_of_cell? w1 _ k1)).trans k1
          have j2 := ((hA2.nx hb2).cell (World.block_lt_of_cell? w1 _ k2)).trans k2
          skip
          clear k1 k2  hB1 hA2 hb2 HD
          go_wp2
          go_ret
          exact ⟨rfl, hB2⟩
  · rw [if_neg hE]
    have z1 : (E != 0) = true := bne_iff_ne.2 hE
    go_enter Tryz.func29, Tryz.ntmps29
    go_wp2_with fail
    ((with_reducible refine (HK.out _ hA).mono ?_); rintro e w1 ⟨rfl, hb1⟩)
    have hB1 := hA.nx hb1
    go_wp2
    go_ret
    exact ⟨rfl, hB1⟩
end Go.Proofs.Wk
