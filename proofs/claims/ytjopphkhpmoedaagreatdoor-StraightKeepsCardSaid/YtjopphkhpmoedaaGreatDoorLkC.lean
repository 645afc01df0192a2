/- STRAIGHTNESS: the operations of a round of the law of moved points. -/
import Derived.Test.YtjopphkhpmoedaaGreatDoorNQ
import Derived.Test.YtjopphkhpmoedaaGreatDoorRG
namespace Go.Proofs.Wk
open Go.RowKit Go.Once Mt
attribute [-go_sem] Builtin.append_

abbrev k1T (w w' : World) : Prop := Below w.heap.size w w'
/-- What the operations of a round yield. -/
def k2R (sv : Value) (k : Nat) (px py bx by_ : Int) (gp gb : Nat) : Nat → Value → World → Prop
  | 0, u, _ => u = sv
  | 1, u, _ => u = .pointer (some ⟨gp, 0, none⟩)
  | 2, u, _ => u = .int .i64 px
  | 3, u, _ => u = .pointer (some ⟨gb, 0, none⟩)
  | 4, u, _ => u = .int .i64 bx
  | 5, u, _ => u = .int .i64 (px + bx)
  | 6, u, _ => u = .pointer (some ⟨gp, 1, none⟩)
  | 7, u, _ => u = .int .i64 py
  | 8, u, _ => u = .pointer (some ⟨gb, 1, none⟩)
  | 9, u, _ => u = .int .i64 by_
  | 10, u, _ => u = .int .i64 (py + by_)
  | 11, u, _ => u = ptV ⟨px + bx, py + by_⟩
  | 12, u, _ => u = .pointer (some ⟨gp, 0, none⟩)
  | 13, u, _ => u = .int .i64 px
  | 14, u, _ => u = .int .i64 (-px)
  | 15, u, _ => u = .pointer (some ⟨gp, 1, none⟩)
  | 16, u, _ => u = .int .i64 py
  | 17, u, _ => u = ptV ⟨-px, py⟩
  | 18, u, _ => u = .pointer (some ⟨gp, 1, none⟩)
  | 19, u, _ => u = .int .i64 py
  | 20, u, _ => u = .int .i64 (-py)
  | 21, u, _ => u = .pointer (some ⟨gp, 0, none⟩)
  | 22, u, _ => u = .int .i64 px
  | 23, u, _ => u = ptV ⟨-py, px⟩
  | 24, u, _ => u = .pointer (some ⟨gp, 0, none⟩)
  | 25, u, _ => u = .int .i64 px
  | 26, u, _ => u = .int .i64 (2 * px)
  | 27, u, _ => u = .pointer (some ⟨gp, 1, none⟩)
  | 28, u, _ => u = .int .i64 py
  | 29, u, _ => u = .int .i64 (2 * py)
  | 30, u, _ => u = ptV ⟨2 * px, 2 * py⟩
  | 31, u, w => ∃ g, u = .slice (some ⟨g, 0, none⟩) 4 4 ∧ w.heap[g]? = some (.cells #[.int .i64 (px + bx), .int .i64 (py + by_), .int .i64 (-px), .int .i64 py, .int .i64 (-py), .int .i64 px, .int .i64 (2 * px), .int .i64 (2 * py)] 37 (0, 0))
  | 32, u, _ => u = .int .i64 (k : Int)
  | 33, u, w => ∃ g, u = .pointer (some ⟨g, k * 2, none⟩) ∧ w.heap[g]? = some (.cells #[.int .i64 (px + bx), .int .i64 (py + by_), .int .i64 (-px), .int .i64 py, .int .i64 (-py), .int .i64 px, .int .i64 (2 * px), .int .i64 (2 * py)] 37 (0, 0))
  | 34, u, _ => u = ptV (trK k ⟨bx, by_⟩ ⟨px, py⟩)
  | 35, u, w => ∃ g, u = .slice (some ⟨g, 0, none⟩) 1 1 ∧ w.heap[g]? = some (.cells #[.int .i64 (trK k ⟨bx, by_⟩ ⟨px, py⟩).x, .int .i64 (trK k ⟨bx, by_⟩ ⟨px, py⟩).y] 37 (0, 0))
  | _, _, _ => True
def k2J (px py bx by_ : Int) (gp gb : Nat) (W1 w : World) : Prop := w.heap[gp]? = some (.cells #[.int .i64 px, .int .i64 py] 37 (0, 0)) ∧ w.heap[gb]? = some (.cells #[.int .i64 bx, .int .i64 by_] 37 (0, 0)) ∧ Below W1.heap.size W1 w
theorem k2J_later {px py bx by_ : Int} {gp gb : Nat} {W1 w w' : World} (h : k2J px py bx by_ gp gb W1 w) (hT : k1T w w') : k2J px py bx by_ gp gb W1 w' := ⟨keepR h.1 hT, keepR h.2.1 hT, h.2.2.nx hT⟩
theorem k2_keep (sv : Value) (k : Nat) (px py bx by_ : Int) (gp gb : Nat) : ∀ i u w w', k2R sv k px py bx by_ gp gb i u w → k1T w w' → k2R sv k px py bx by_ gp gb i u w' := by
  intro i u w w' h hT
  match i, h with
  | 0, h => exact h
  | 1, h => exact h
  | 2, h => exact h
  | 3, h => exact h
  | 4, h => exact h
  | 5, h => exact h
  | 6, h => exact h
  | 7, h => exact h
  | 8, h => exact h
  | 9, h => exact h
  | 10, h => exact h
  | 11, h => exact h
  | 12, h => exact h
  | 13, h => exact h
  | 14, h => exact h
  | 15, h => exact h
  | 16, h => exact h
  | 17, h => exact h
  | 18, h => exact h
  | 19, h => exact h
  | 20, h => exact h
  | 21, h => exact h
  | 22, h => exact h
  | 23, h => exact h
  | 24, h => exact h
  | 25, h => exact h
  | 26, h => exact h
  | 27, h => exact h
  | 28, h => exact h
  | 29, h => exact h
  | 30, h => exact h
  | 31, h => exact (by obtain ⟨g, h1, h2⟩ := h; exact ⟨g, h1, keepR h2 hT⟩)
  | 32, h => exact h
  | 33, h => exact (by obtain ⟨g, h1, h2⟩ := h; exact ⟨g, h1, keepR h2 hT⟩)
  | 34, h => exact h
  | 35, h => exact (by obtain ⟨g, h1, h2⟩ := h; exact ⟨g, h1, keepR h2 hT⟩)
  | _ + 36, _ => trivial
section
variable {sv : Value} {k : Nat} {px py bx by_ : Int} {gp gb : Nat} {W1 : World} {a0 : Act}
set_option maxRecDepth 100000 in
theorem s13_0 (hsz : a0.tmps.size = 167) (h13 : a0.tmps[13]?.getD undef = sv) : ∀ o, (opsOf Tryz.f7 13)[0]? = some o → StepN Tryz.prog (opsOf Tryz.f7 13) 36 a0 (k2R sv k px py bx by_ gp gb) (k2J px py bx by_ gp gb W1) k1T 0 o := by
  intro o ho
  have hop : o.op = .move (.tmp 13) := atO (f := (·.op)) ho (by kernel_rfl)
  have hgd : o.guard = none := atO (f := (·.guard)) ho (by kernel_rfl)
  refine Step.val (n := 167) hsz (by kernel_rfl) fun vs w1 b hJ hD hS => ⟨by simp [Region.wanted, hgd], sv, w1, ?_, rfl, hJ, Below.refl _ _⟩
  have e13 := (hS.rest 13 (atO (f := fun o => (depsN (opsOf Tryz.f7 13) 36 o).all fun j => dstOf (opsOf Tryz.f7 13) j != some 13) ho (by kernel_rfl))).trans h13
  simp [execOp, hop, go_sem, e13]
set_option maxRecDepth 100000 in
theorem s13_1 (hsz : a0.tmps.size = 167) (h15 : a0.tmps[15]?.getD undef = .pointer (some ⟨gp, 0, none⟩)) : ∀ o, (opsOf Tryz.f7 13)[1]? = some o → StepN Tryz.prog (opsOf Tryz.f7 13) 36 a0 (k2R sv k px py bx by_ gp gb) (k2J px py bx by_ gp gb W1) k1T 1 o := by
  intro o ho
  have hop : o.op = .fieldAddr 37 (.tmp 15) 0 := atO (f := (·.op)) ho (by kernel_rfl)
  have hgd : o.guard = none := atO (f := (·.guard)) ho (by kernel_rfl)
  refine Step.val (n := 167) hsz (by kernel_rfl) fun vs w1 b hJ hD hS => ⟨by simp [Region.wanted, hgd], .pointer (some ⟨gp, 0, none⟩), w1, ?_, rfl, hJ, Below.refl _ _⟩
  have e15 := (hS.rest 15 (atO (f := fun o => (depsN (opsOf Tryz.f7 13) 36 o).all fun j => dstOf (opsOf Tryz.f7 13) j != some 15) ho (by kernel_rfl))).trans h15
  simp [execOp, hop, go_sem, e15]
set_option maxRecDepth 100000 in
theorem s13_3 (hsz : a0.tmps.size = 167) (h4 : a0.tmps[4]?.getD undef = .pointer (some ⟨gb, 0, none⟩)) : ∀ o, (opsOf Tryz.f7 13)[3]? = some o → StepN Tryz.prog (opsOf Tryz.f7 13) 36 a0 (k2R sv k px py bx by_ gp gb) (k2J px py bx by_ gp gb W1) k1T 3 o := by
  intro o ho
  have hop : o.op = .fieldAddr 37 (.tmp 4) 0 := atO (f := (·.op)) ho (by kernel_rfl)
  have hgd : o.guard = none := atO (f := (·.guard)) ho (by kernel_rfl)
  refine Step.val (n := 167) hsz (by kernel_rfl) fun vs w1 b hJ hD hS => ⟨by simp [Region.wanted, hgd], .pointer (some ⟨gb, 0, none⟩), w1, ?_, rfl, hJ, Below.refl _ _⟩
  have e4 := (hS.rest 4 (atO (f := fun o => (depsN (opsOf Tryz.f7 13) 36 o).all fun j => dstOf (opsOf Tryz.f7 13) j != some 4) ho (by kernel_rfl))).trans h4
  simp [execOp, hop, go_sem, e4]
set_option maxRecDepth 100000 in
theorem s13_6 (hsz : a0.tmps.size = 167) (h15 : a0.tmps[15]?.getD undef = .pointer (some ⟨gp, 0, none⟩)) : ∀ o, (opsOf Tryz.f7 13)[6]? = some o → StepN Tryz.prog (opsOf Tryz.f7 13) 36 a0 (k2R sv k px py bx by_ gp gb) (k2J px py bx by_ gp gb W1) k1T 6 o := by
  intro o ho
  have hop : o.op = .fieldAddr 37 (.tmp 15) 1 := atO (f := (·.op)) ho (by kernel_rfl)
  have hgd : o.guard = none := atO (f := (·.guard)) ho (by kernel_rfl)
  refine Step.val (n := 167) hsz (by kernel_rfl) fun vs w1 b hJ hD hS => ⟨by simp [Region.wanted, hgd], .pointer (some ⟨gp, 1, none⟩), w1, ?_, rfl, hJ, Below.refl _ _⟩
  have e15 := (hS.rest 15 (atO (f := fun o => (depsN (opsOf Tryz.f7 13) 36 o).all fun j => dstOf (opsOf Tryz.f7 13) j != some 15) ho (by kernel_rfl))).trans h15
  simp [execOp, hop, go_sem, e15]
set_option maxRecDepth 100000 in
theorem s13_8 (hsz : a0.tmps.size = 167) (h4 : a0.tmps[4]?.getD undef = .pointer (some ⟨gb, 0, none⟩)) : ∀ o, (opsOf Tryz.f7 13)[8]? = some o → StepN Tryz.prog (opsOf Tryz.f7 13) 36 a0 (k2R sv k px py bx by_ gp gb) (k2J px py bx by_ gp gb W1) k1T 8 o := by
  intro o ho
  have hop : o.op = .fieldAddr 37 (.tmp 4) 1 := atO (f := (·.op)) ho (by kernel_rfl)
  have hgd : o.guard = none := atO (f := (·.guard)) ho (by kernel_rfl)
  refine Step.val (n := 167) hsz (by kernel_rfl) fun vs w1 b hJ hD hS => ⟨by simp [Region.wanted, hgd], .pointer (some ⟨gb, 1, none⟩), w1, ?_, rfl, hJ, Below.refl _ _⟩
  have e4 := (hS.rest 4 (atO (f := fun o => (depsN (opsOf Tryz.f7 13) 36 o).all fun j => dstOf (opsOf Tryz.f7 13) j != some 4) ho (by kernel_rfl))).trans h4
  simp [execOp, hop, go_sem, e4]
set_option maxRecDepth 100000 in
theorem s13_12 (hsz : a0.tmps.size = 167) (h15 : a0.tmps[15]?.getD undef = .pointer (some ⟨gp, 0, none⟩)) : ∀ o, (opsOf Tryz.f7 13)[12]? = some o → StepN Tryz.prog (opsOf Tryz.f7 13) 36 a0 (k2R sv k px py bx by_ gp gb) (k2J px py bx by_ gp gb W1) k1T 12 o := by
  intro o ho
  have hop : o.op = .fieldAddr 37 (.tmp 15) 0 := atO (f := (·.op)) ho (by kernel_rfl)
  have hgd : o.guard = none := atO (f := (·.guard)) ho (by kernel_rfl)
  refine Step.val (n := 167) hsz (by kernel_rfl) fun vs w1 b hJ hD hS => ⟨by simp [Region.wanted, hgd], .pointer (some ⟨gp, 0, none⟩), w1, ?_, rfl, hJ, Below.refl _ _⟩
  have e15 := (hS.rest 15 (atO (f := fun o => (depsN (opsOf Tryz.f7 13) 36 o).all fun j => dstOf (opsOf Tryz.f7 13) j != some 15) ho (by kernel_rfl))).trans h15
  simp [execOp, hop, go_sem, e15]
set_option maxRecDepth 100000 in
theorem s13_15 (hsz : a0.tmps.size = 167) (h15 : a0.tmps[15]?.getD undef = .pointer (some ⟨gp, 0, none⟩)) : ∀ o, (opsOf Tryz.f7 13)[15]? = some o → StepN Tryz.prog (opsOf Tryz.f7 13) 36 a0 (k2R sv k px py bx by_ gp gb) (k2J px py bx by_ gp gb W1) k1T 15 o := by
  intro o ho
  have hop : o.op = .fieldAddr 37 (.tmp 15) 1 := atO (f := (·.op)) ho (by kernel_rfl)
  have hgd : o.guard = none := atO (f := (·.guard)) ho (by kernel_rfl)
  refine Step.val (n := 167) hsz (by kernel_rfl) fun vs w1 b hJ hD hS => ⟨by simp [Region.wanted, hgd], .pointer (some ⟨gp, 1, none⟩), w1, ?_, rfl, hJ, Below.refl _ _⟩
  have e15 := (hS.rest 15 (atO (f := fun o => (depsN (opsOf Tryz.f7 13) 36 o).all fun j => dstOf (opsOf Tryz.f7 13) j != some 15) ho (by kernel_rfl))).trans h15
  simp [execOp, hop, go_sem, e15]
set_option maxRecDepth 100000 in
theorem s13_18 (hsz : a0.tmps.size = 167) (h15 : a0.tmps[15]?.getD undef = .pointer (some ⟨gp, 0, none⟩)) : ∀ o, (opsOf Tryz.f7 13)[18]? = some o → StepN Tryz.prog (opsOf Tryz.f7 13) 36 a0 (k2R sv k px py bx by_ gp gb) (k2J px py bx by_ gp gb W1) k1T 18 o := by
  intro o ho
  have hop : o.op = .fieldAddr 37 (.tmp 15) 1 := atO (f := (·.op)) ho (by kernel_rfl)
  have hgd : o.guard = none := atO (f := (·.guard)) ho (by kernel_rfl)
  refine Step.val (n := 167) hsz (by kernel_rfl) fun vs w1 b hJ hD hS => ⟨by simp [Region.wanted, hgd], .pointer (some ⟨gp, 1, none⟩), w1, ?_, rfl, hJ, Below.refl _ _⟩
  have e15 := (hS.rest 15 (atO (f := fun o => (depsN (opsOf Tryz.f7 13) 36 o).all fun j => dstOf (opsOf Tryz.f7 13) j != some 15) ho (by kernel_rfl))).trans h15
  simp [execOp, hop, go_sem, e15]
set_option maxRecDepth 100000 in
theorem s13_21 (hsz : a0.tmps.size = 167) (h15 : a0.tmps[15]?.getD undef = .pointer (some ⟨gp, 0, none⟩)) : ∀ o, (opsOf Tryz.f7 13)[21]? = some o → StepN Tryz.prog (opsOf Tryz.f7 13) 36 a0 (k2R sv k px py bx by_ gp gb) (k2J px py bx by_ gp gb W1) k1T 21 o := by
  intro o ho
  have hop : o.op = .fieldAddr 37 (.tmp 15) 0 := atO (f := (·.op)) ho (by kernel_rfl)
  have hgd : o.guard = none := atO (f := (·.guard)) ho (by kernel_rfl)
  refine Step.val (n := 167) hsz (by kernel_rfl) fun vs w1 b hJ hD hS => ⟨by simp [Region.wanted, hgd], .pointer (some ⟨gp, 0, none⟩), w1, ?_, rfl, hJ, Below.refl _ _⟩
  have e15 := (hS.rest 15 (atO (f := fun o => (depsN (opsOf Tryz.f7 13) 36 o).all fun j => dstOf (opsOf Tryz.f7 13) j != some 15) ho (by kernel_rfl))).trans h15
  simp [execOp, hop, go_sem, e15]
set_option maxRecDepth 100000 in
theorem s13_24 (hsz : a0.tmps.size = 167) (h15 : a0.tmps[15]?.getD undef = .pointer (some ⟨gp, 0, none⟩)) : ∀ o, (opsOf Tryz.f7 13)[24]? = some o → StepN Tryz.prog (opsOf Tryz.f7 13) 36 a0 (k2R sv k px py bx by_ gp gb) (k2J px py bx by_ gp gb W1) k1T 24 o := by
  intro o ho
  have hop : o.op = .fieldAddr 37 (.tmp 15) 0 := atO (f := (·.op)) ho (by kernel_rfl)
  have hgd : o.guard = none := atO (f := (·.guard)) ho (by kernel_rfl)
  refine Step.val (n := 167) hsz (by kernel_rfl) fun vs w1 b hJ hD hS => ⟨by simp [Region.wanted, hgd], .pointer (some ⟨gp, 0, none⟩), w1, ?_, rfl, hJ, Below.refl _ _⟩
  have e15 := (hS.rest 15 (atO (f := fun o => (depsN (opsOf Tryz.f7 13) 36 o).all fun j => dstOf (opsOf Tryz.f7 13) j != some 15) ho (by kernel_rfl))).trans h15
  simp [execOp, hop, go_sem, e15]
set_option maxRecDepth 100000 in
theorem s13_27 (hsz : a0.tmps.size = 167) (h15 : a0.tmps[15]?.getD undef = .pointer (some ⟨gp, 0, none⟩)) : ∀ o, (opsOf Tryz.f7 13)[27]? = some o → StepN Tryz.prog (opsOf Tryz.f7 13) 36 a0 (k2R sv k px py bx by_ gp gb) (k2J px py bx by_ gp gb W1) k1T 27 o := by
  intro o ho
  have hop : o.op = .fieldAddr 37 (.tmp 15) 1 := atO (f := (·.op)) ho (by kernel_rfl)
  have hgd : o.guard = none := atO (f := (·.guard)) ho (by kernel_rfl)
  refine Step.val (n := 167) hsz (by kernel_rfl) fun vs w1 b hJ hD hS => ⟨by simp [Region.wanted, hgd], .pointer (some ⟨gp, 1, none⟩), w1, ?_, rfl, hJ, Below.refl _ _⟩
  have e15 := (hS.rest 15 (atO (f := fun o => (depsN (opsOf Tryz.f7 13) 36 o).all fun j => dstOf (opsOf Tryz.f7 13) j != some 15) ho (by kernel_rfl))).trans h15
  simp [execOp, hop, go_sem, e15]
set_option maxRecDepth 100000 in
theorem s13_2 (hsz : a0.tmps.size = 167) : ∀ o, (opsOf Tryz.f7 13)[2]? = some o → StepN Tryz.prog (opsOf Tryz.f7 13) 36 a0 (k2R sv k px py bx by_ gp gb) (k2J px py bx by_ gp gb W1) k1T 2 o := by
  intro o ho
  have hop : o.op = .load 3 (.tmp 71) := atO (f := (·.op)) ho (by kernel_rfl)
  have hgd : o.guard = none := atO (f := (·.guard)) ho (by kernel_rfl)
  refine Step.val (n := 167) hsz (by kernel_rfl) fun vs w1 b hJ hD hS => ⟨by simp [Region.wanted, hgd], .int .i64 px, w1, ?_, rfl, hJ, Below.refl _ _⟩
  have e71 := (hS.got 1 71 (atO (f := fun o => (depsN (opsOf Tryz.f7 13) 36 o).contains 1) ho (by kernel_rfl)) (by kernel_rfl) (by decide)).trans (hD 1 (depM (atO (f := fun o => (depsN (opsOf Tryz.f7 13) 36 o).contains 1) ho (by kernel_rfl))))
  obtain ⟨c0, c1⟩ := c2row hJ.1
  simp [execOp, hop, go_sem, e71, c0]
set_option maxRecDepth 100000 in
theorem s13_4 (hsz : a0.tmps.size = 167) : ∀ o, (opsOf Tryz.f7 13)[4]? = some o → StepN Tryz.prog (opsOf Tryz.f7 13) 36 a0 (k2R sv k px py bx by_ gp gb) (k2J px py bx by_ gp gb W1) k1T 4 o := by
  intro o ho
  have hop : o.op = .load 3 (.tmp 73) := atO (f := (·.op)) ho (by kernel_rfl)
  have hgd : o.guard = none := atO (f := (·.guard)) ho (by kernel_rfl)
  refine Step.val (n := 167) hsz (by kernel_rfl) fun vs w1 b hJ hD hS => ⟨by simp [Region.wanted, hgd], .int .i64 bx, w1, ?_, rfl, hJ, Below.refl _ _⟩
  have e73 := (hS.got 3 73 (atO (f := fun o => (depsN (opsOf Tryz.f7 13) 36 o).contains 3) ho (by kernel_rfl)) (by kernel_rfl) (by decide)).trans (hD 3 (depM (atO (f := fun o => (depsN (opsOf Tryz.f7 13) 36 o).contains 3) ho (by kernel_rfl))))
  obtain ⟨c0, c1⟩ := c2row hJ.2.1
  simp [execOp, hop, go_sem, e73, c0]
set_option maxRecDepth 100000 in
theorem s13_7 (hsz : a0.tmps.size = 167) : ∀ o, (opsOf Tryz.f7 13)[7]? = some o → StepN Tryz.prog (opsOf Tryz.f7 13) 36 a0 (k2R sv k px py bx by_ gp gb) (k2J px py bx by_ gp gb W1) k1T 7 o := by
  intro o ho
  have hop : o.op = .load 3 (.tmp 76) := atO (f := (·.op)) ho (by kernel_rfl)
  have hgd : o.guard = none := atO (f := (·.guard)) ho (by kernel_rfl)
  refine Step.val (n := 167) hsz (by kernel_rfl) fun vs w1 b hJ hD hS => ⟨by simp [Region.wanted, hgd], .int .i64 py, w1, ?_, rfl, hJ, Below.refl _ _⟩
  have e76 := (hS.got 6 76 (atO (f := fun o => (depsN (opsOf Tryz.f7 13) 36 o).contains 6) ho (by kernel_rfl)) (by kernel_rfl) (by decide)).trans (hD 6 (depM (atO (f := fun o => (depsN (opsOf Tryz.f7 13) 36 o).contains 6) ho (by kernel_rfl))))
  obtain ⟨c0, c1⟩ := c2row hJ.1
  simp [execOp, hop, go_sem, e76, c1]
set_option maxRecDepth 100000 in
theorem s13_9 (hsz : a0.tmps.size = 167) : ∀ o, (opsOf Tryz.f7 13)[9]? = some o → StepN Tryz.prog (opsOf Tryz.f7 13) 36 a0 (k2R sv k px py bx by_ gp gb) (k2J px py bx by_ gp gb W1) k1T 9 o := by
  intro o ho
  have hop : o.op = .load 3 (.tmp 78) := atO (f := (·.op)) ho (by kernel_rfl)
  have hgd : o.guard = none := atO (f := (·.guard)) ho (by kernel_rfl)
  refine Step.val (n := 167) hsz (by kernel_rfl) fun vs w1 b hJ hD hS => ⟨by simp [Region.wanted, hgd], .int .i64 by_, w1, ?_, rfl, hJ, Below.refl _ _⟩
  have e78 := (hS.got 8 78 (atO (f := fun o => (depsN (opsOf Tryz.f7 13) 36 o).contains 8) ho (by kernel_rfl)) (by kernel_rfl) (by decide)).trans (hD 8 (depM (atO (f := fun o => (depsN (opsOf Tryz.f7 13) 36 o).contains 8) ho (by kernel_rfl))))
  obtain ⟨c0, c1⟩ := c2row hJ.2.1
  simp [execOp, hop, go_sem, e78, c1]
set_option maxRecDepth 100000 in
theorem s13_13 (hsz : a0.tmps.size = 167) : ∀ o, (opsOf Tryz.f7 13)[13]? = some o → StepN Tryz.prog (opsOf Tryz.f7 13) 36 a0 (k2R sv k px py bx by_ gp gb) (k2J px py bx by_ gp gb W1) k1T 13 o := by
  intro o ho
  have hop : o.op = .load 3 (.tmp 82) := atO (f := (·.op)) ho (by kernel_rfl)
  have hgd : o.guard = none := atO (f := (·.guard)) ho (by kernel_rfl)
  refine Step.val (n := 167) hsz (by kernel_rfl) fun vs w1 b hJ hD hS => ⟨by simp [Region.wanted, hgd], .int .i64 px, w1, ?_, rfl, hJ, Below.refl _ _⟩
  have e82 := (hS.got 12 82 (atO (f := fun o => (depsN (opsOf Tryz.f7 13) 36 o).contains 12) ho (by kernel_rfl)) (by kernel_rfl) (by decide)).trans (hD 12 (depM (atO (f := fun o => (depsN (opsOf Tryz.f7 13) 36 o).contains 12) ho (by kernel_rfl))))
  obtain ⟨c0, c1⟩ := c2row hJ.1
  simp [execOp, hop, go_sem, e82, c0]
set_option maxRecDepth 100000 in
theorem s13_16 (hsz : a0.tmps.size = 167) : ∀ o, (opsOf Tryz.f7 13)[16]? = some o → StepN Tryz.prog (opsOf Tryz.f7 13) 36 a0 (k2R sv k px py bx by_ gp gb) (k2J px py bx by_ gp gb W1) k1T 16 o := by
  intro o ho
  have hop : o.op = .load 3 (.tmp 85) := atO (f := (·.op)) ho (by kernel_rfl)
  have hgd : o.guard = none := atO (f := (·.guard)) ho (by kernel_rfl)
  refine Step.val (n := 167) hsz (by kernel_rfl) fun vs w1 b hJ hD hS => ⟨by simp [Region.wanted, hgd], .int .i64 py, w1, ?_, rfl, hJ, Below.refl _ _⟩
  have e85 := (hS.got 15 85 (atO (f := fun o => (depsN (opsOf Tryz.f7 13) 36 o).contains 15) ho (by kernel_rfl)) (by kernel_rfl) (by decide)).trans (hD 15 (depM (atO (f := fun o => (depsN (opsOf Tryz.f7 13) 36 o).contains 15) ho (by kernel_rfl))))
  obtain ⟨c0, c1⟩ := c2row hJ.1
  simp [execOp, hop, go_sem, e85, c1]
set_option maxRecDepth 100000 in
theorem s13_19 (hsz : a0.tmps.size = 167) : ∀ o, (opsOf Tryz.f7 13)[19]? = some o → StepN Tryz.prog (opsOf Tryz.f7 13) 36 a0 (k2R sv k px py bx by_ gp gb) (k2J px py bx by_ gp gb W1) k1T 19 o := by
  intro o ho
  have hop : o.op = .load 3 (.tmp 88) := atO (f := (·.op)) ho (by kernel_rfl)
  have hgd : o.guard = none := atO (f := (·.guard)) ho (by kernel_rfl)
  refine Step.val (n := 167) hsz (by kernel_rfl) fun vs w1 b hJ hD hS => ⟨by simp [Region.wanted, hgd], .int .i64 py, w1, ?_, rfl, hJ, Below.refl _ _⟩
  have e88 := (hS.got 18 88 (atO (f := fun o => (depsN (opsOf Tryz.f7 13) 36 o).contains 18) ho (by kernel_rfl)) (by kernel_rfl) (by decide)).trans (hD 18 (depM (atO (f := fun o => (depsN (opsOf Tryz.f7 13) 36 o).contains 18) ho (by kernel_rfl))))
  obtain ⟨c0, c1⟩ := c2row hJ.1
  simp [execOp, hop, go_sem, e88, c1]
set_option maxRecDepth 100000 in
theorem s13_22 (hsz : a0.tmps.size = 167) : ∀ o, (opsOf Tryz.f7 13)[22]? = some o → StepN Tryz.prog (opsOf Tryz.f7 13) 36 a0 (k2R sv k px py bx by_ gp gb) (k2J px py bx by_ gp gb W1) k1T 22 o := by
  intro o ho
  have hop : o.op = .load 3 (.tmp 91) := atO (f := (·.op)) ho (by kernel_rfl)
  have hgd : o.guard = none := atO (f := (·.guard)) ho (by kernel_rfl)
  refine Step.val (n := 167) hsz (by kernel_rfl) fun vs w1 b hJ hD hS => ⟨by simp [Region.wanted, hgd], .int .i64 px, w1, ?_, rfl, hJ, Below.refl _ _⟩
  have e91 := (hS.got 21 91 (atO (f := fun o => (depsN (opsOf Tryz.f7 13) 36 o).contains 21) ho (by kernel_rfl)) (by kernel_rfl) (by decide)).trans (hD 21 (depM (atO (f := fun o => (depsN (opsOf Tryz.f7 13) 36 o).contains 21) ho (by kernel_rfl))))
  obtain ⟨c0, c1⟩ := c2row hJ.1
  simp [execOp, hop, go_sem, e91, c0]
set_option maxRecDepth 100000 in
theorem s13_25 (hsz : a0.tmps.size = 167) : ∀ o, (opsOf Tryz.f7 13)[25]? = some o → StepN Tryz.prog (opsOf Tryz.f7 13) 36 a0 (k2R sv k px py bx by_ gp gb) (k2J px py bx by_ gp gb W1) k1T 25 o := by
  intro o ho
  have hop : o.op = .load 3 (.tmp 94) := atO (f := (·.op)) ho (by kernel_rfl)
  have hgd : o.guard = none := atO (f := (·.guard)) ho (by kernel_rfl)
  refine Step.val (n := 167) hsz (by kernel_rfl) fun vs w1 b hJ hD hS => ⟨by simp [Region.wanted, hgd], .int .i64 px, w1, ?_, rfl, hJ, Below.refl _ _⟩
  have e94 := (hS.got 24 94 (atO (f := fun o => (depsN (opsOf Tryz.f7 13) 36 o).contains 24) ho (by kernel_rfl)) (by kernel_rfl) (by decide)).trans (hD 24 (depM (atO (f := fun o => (depsN (opsOf Tryz.f7 13) 36 o).contains 24) ho (by kernel_rfl))))
  obtain ⟨c0, c1⟩ := c2row hJ.1
  simp [execOp, hop, go_sem, e94, c0]
set_option maxRecDepth 100000 in
theorem s13_28 (hsz : a0.tmps.size = 167) : ∀ o, (opsOf Tryz.f7 13)[28]? = some o → StepN Tryz.prog (opsOf Tryz.f7 13) 36 a0 (k2R sv k px py bx by_ gp gb) (k2J px py bx by_ gp gb W1) k1T 28 o := by
  intro o ho
  have hop : o.op = .load 3 (.tmp 97) := atO (f := (·.op)) ho (by kernel_rfl)
  have hgd : o.guard = none := atO (f := (·.guard)) ho (by kernel_rfl)
  refine Step.val (n := 167) hsz (by kernel_rfl) fun vs w1 b hJ hD hS => ⟨by simp [Region.wanted, hgd], .int .i64 py, w1, ?_, rfl, hJ, Below.refl _ _⟩
  have e97 := (hS.got 27 97 (atO (f := fun o => (depsN (opsOf Tryz.f7 13) 36 o).contains 27) ho (by kernel_rfl)) (by kernel_rfl) (by decide)).trans (hD 27 (depM (atO (f := fun o => (depsN (opsOf Tryz.f7 13) 36 o).contains 27) ho (by kernel_rfl))))
  obtain ⟨c0, c1⟩ := c2row hJ.1
  simp [execOp, hop, go_sem, e97, c1]
set_option maxRecDepth 100000 in
theorem s13_5 (hsz : a0.tmps.size = 167) (hw5 : IntKind.i64.wrap (px + bx) = px + bx) : ∀ o, (opsOf Tryz.f7 13)[5]? = some o → StepN Tryz.prog (opsOf Tryz.f7 13) 36 a0 (k2R sv k px py bx by_ gp gb) (k2J px py bx by_ gp gb W1) k1T 5 o := by
  intro o ho
  have hop : o.op = .binOp .add 3 (.tmp 72) (.tmp 74) 3 := atO (f := (·.op)) ho (by kernel_rfl)
  have hgd : o.guard = none := atO (f := (·.guard)) ho (by kernel_rfl)
  refine Step.val (n := 167) hsz (by kernel_rfl) fun vs w1 b hJ hD hS => ⟨by simp [Region.wanted, hgd], .int .i64 (px + bx), w1, ?_, rfl, hJ, Below.refl _ _⟩
  have e72 := (hS.got 2 72 (atO (f := fun o => (depsN (opsOf Tryz.f7 13) 36 o).contains 2) ho (by kernel_rfl)) (by kernel_rfl) (by decide)).trans (hD 2 (depM (atO (f := fun o => (depsN (opsOf Tryz.f7 13) 36 o).contains 2) ho (by kernel_rfl))))
  have e74 := (hS.got 4 74 (atO (f := fun o => (depsN (opsOf Tryz.f7 13) 36 o).contains 4) ho (by kernel_rfl)) (by kernel_rfl) (by decide)).trans (hD 4 (depM (atO (f := fun o => (depsN (opsOf Tryz.f7 13) 36 o).contains 4) ho (by kernel_rfl))))
  simp [execOp, hop, go_sem, e72, e74, hw5]
set_option maxRecDepth 100000 in
theorem s13_10 (hsz : a0.tmps.size = 167) (hw10 : IntKind.i64.wrap (py + by_) = py + by_) : ∀ o, (opsOf Tryz.f7 13)[10]? = some o → StepN Tryz.prog (opsOf Tryz.f7 13) 36 a0 (k2R sv k px py bx by_ gp gb) (k2J px py bx by_ gp gb W1) k1T 10 o := by
  intro o ho
  have hop : o.op = .binOp .add 3 (.tmp 77) (.tmp 79) 3 := atO (f := (·.op)) ho (by kernel_rfl)
  have hgd : o.guard = none := atO (f := (·.guard)) ho (by kernel_rfl)
  refine Step.val (n := 167) hsz (by kernel_rfl) fun vs w1 b hJ hD hS => ⟨by simp [Region.wanted, hgd], .int .i64 (py + by_), w1, ?_, rfl, hJ, Below.refl _ _⟩
  have e77 := (hS.got 7 77 (atO (f := fun o => (depsN (opsOf Tryz.f7 13) 36 o).contains 7) ho (by kernel_rfl)) (by kernel_rfl) (by decide)).trans (hD 7 (depM (atO (f := fun o => (depsN (opsOf Tryz.f7 13) 36 o).contains 7) ho (by kernel_rfl))))
  have e79 := (hS.got 9 79 (atO (f := fun o => (depsN (opsOf Tryz.f7 13) 36 o).contains 9) ho (by kernel_rfl)) (by kernel_rfl) (by decide)).trans (hD 9 (depM (atO (f := fun o => (depsN (opsOf Tryz.f7 13) 36 o).contains 9) ho (by kernel_rfl))))
  simp [execOp, hop, go_sem, e77, e79, hw10]
set_option maxRecDepth 100000 in
theorem s13_14 (hsz : a0.tmps.size = 167) (hw14 : IntKind.i64.wrap (-px) = -px) : ∀ o, (opsOf Tryz.f7 13)[14]? = some o → StepN Tryz.prog (opsOf Tryz.f7 13) 36 a0 (k2R sv k px py bx by_ gp gb) (k2J px py bx by_ gp gb W1) k1T 14 o := by
  intro o ho
  have hop : o.op = .unOp .neg 3 (.tmp 83) := atO (f := (·.op)) ho (by kernel_rfl)
  have hgd : o.guard = none := atO (f := (·.guard)) ho (by kernel_rfl)
  refine Step.val (n := 167) hsz (by kernel_rfl) fun vs w1 b hJ hD hS => ⟨by simp [Region.wanted, hgd], .int .i64 (-px), w1, ?_, rfl, hJ, Below.refl _ _⟩
  have e83 := (hS.got 13 83 (atO (f := fun o => (depsN (opsOf Tryz.f7 13) 36 o).contains 13) ho (by kernel_rfl)) (by kernel_rfl) (by decide)).trans (hD 13 (depM (atO (f := fun o => (depsN (opsOf Tryz.f7 13) 36 o).contains 13) ho (by kernel_rfl))))
  simp [execOp, hop, go_sem, e83, hw14]
set_option maxRecDepth 100000 in
theorem s13_20 (hsz : a0.tmps.size = 167) (hw20 : IntKind.i64.wrap (-py) = -py) : ∀ o, (opsOf Tryz.f7 13)[20]? = some o → StepN Tryz.prog (opsOf Tryz.f7 13) 36 a0 (k2R sv k px py bx by_ gp gb) (k2J px py bx by_ gp gb W1) k1T 20 o := by
  intro o ho
  have hop : o.op = .unOp .neg 3 (.tmp 89) := atO (f := (·.op)) ho (by kernel_rfl)
  have hgd : o.guard = none := atO (f := (·.guard)) ho (by kernel_rfl)
  refine Step.val (n := 167) hsz (by kernel_rfl) fun vs w1 b hJ hD hS => ⟨by simp [Region.wanted, hgd], .int .i64 (-py), w1, ?_, rfl, hJ, Below.refl _ _⟩
  have e89 := (hS.got 19 89 (atO (f := fun o => (depsN (opsOf Tryz.f7 13) 36 o).contains 19) ho (by kernel_rfl)) (by kernel_rfl) (by decide)).trans (hD 19 (depM (atO (f := fun o => (depsN (opsOf Tryz.f7 13) 36 o).contains 19) ho (by kernel_rfl))))
  simp [execOp, hop, go_sem, e89, hw20]
set_option maxRecDepth 100000 in
theorem s13_26 (hsz : a0.tmps.size = 167) (hw26 : IntKind.i64.wrap (2 * px) = 2 * px) : ∀ o, (opsOf Tryz.f7 13)[26]? = some o → StepN Tryz.prog (opsOf Tryz.f7 13) 36 a0 (k2R sv k px py bx by_ gp gb) (k2J px py bx by_ gp gb W1) k1T 26 o := by
  intro o ho
  have hop : o.op = .binOp .mul 3 (.const (.int .i64 2)) (.tmp 95) 3 := atO (f := (·.op)) ho (by kernel_rfl)
  have hgd : o.guard = none := atO (f := (·.guard)) ho (by kernel_rfl)
  refine Step.val (n := 167) hsz (by kernel_rfl) fun vs w1 b hJ hD hS => ⟨by simp [Region.wanted, hgd], .int .i64 (2 * px), w1, ?_, rfl, hJ, Below.refl _ _⟩
  have e95 := (hS.got 25 95 (atO (f := fun o => (depsN (opsOf Tryz.f7 13) 36 o).contains 25) ho (by kernel_rfl)) (by kernel_rfl) (by decide)).trans (hD 25 (depM (atO (f := fun o => (depsN (opsOf Tryz.f7 13) 36 o).contains 25) ho (by kernel_rfl))))
  simp [execOp, hop, go_sem, e95, hw26]
set_option maxRecDepth 100000 in
theorem s13_29 (hsz : a0.tmps.size = 167) (hw29 : IntKind.i64.wrap (2 * py) = 2 * py) : ∀ o, (opsOf Tryz.f7 13)[29]? = some o → StepN Tryz.prog (opsOf Tryz.f7 13) 36 a0 (k2R sv k px py bx by_ gp gb) (k2J px py bx by_ gp gb W1) k1T 29 o := by
  intro o ho
  have hop : o.op = .binOp .mul 3 (.const (.int .i64 2)) (.tmp 98) 3 := atO (f := (·.op)) ho (by kernel_rfl)
  have hgd : o.guard = none := atO (f := (·.guard)) ho (by kernel_rfl)
  refine Step.val (n := 167) hsz (by kernel_rfl) fun vs w1 b hJ hD hS => ⟨by simp [Region.wanted, hgd], .int .i64 (2 * py), w1, ?_, rfl, hJ, Below.refl _ _⟩
  have e98 := (hS.got 28 98 (atO (f := fun o => (depsN (opsOf Tryz.f7 13) 36 o).contains 28) ho (by kernel_rfl)) (by kernel_rfl) (by decide)).trans (hD 28 (depM (atO (f := fun o => (depsN (opsOf Tryz.f7 13) 36 o).contains 28) ho (by kernel_rfl))))
  simp [execOp, hop, go_sem, e98, hw29]
set_option maxRecDepth 100000 in
theorem s13_11 (hsz : a0.tmps.size = 167) : ∀ o, (opsOf Tryz.f7 13)[11]? = some o → StepN Tryz.prog (opsOf Tryz.f7 13) 36 a0 (k2R sv k px py bx by_ gp gb) (k2J px py bx by_ gp gb W1) k1T 11 o := by
  intro o ho
  have hop : o.op = .call { callee := .value (.func 34), args := #[.tmp 75, .tmp 80], argTypes := #[3, 3] } := atO (f := (·.op)) ho (by kernel_rfl)
  have hgd : o.guard = none := atO (f := (·.guard)) ho (by kernel_rfl)
  refine Step.call (n := 167) hsz (by kernel_rfl) fun vs w1 b hJ hD hS => ⟨by simp [Region.wanted, hgd], 34, #[.int .i64 (px + bx), .int .i64 (py + by_)], ?_, ?_⟩
  · have e75 := (hS.got 5 75 (atO (f := fun o => (depsN (opsOf Tryz.f7 13) 36 o).contains 5) ho (by kernel_rfl)) (by kernel_rfl) (by decide)).trans (hD 5 (depM (atO (f := fun o => (depsN (opsOf Tryz.f7 13) 36 o).contains 5) ho (by kernel_rfl))))
    have e80 := (hS.got 10 80 (atO (f := fun o => (depsN (opsOf Tryz.f7 13) 36 o).contains 10) ho (by kernel_rfl)) (by kernel_rfl) (by decide)).trans (hD 10 (depM (atO (f := fun o => (depsN (opsOf Tryz.f7 13) 36 o).contains 10) ho (by kernel_rfl))))
    simp [execOp, hop, go_sem, e75, e80]
  · exact (at_c (px + bx) (py + by_) w1).mono fun e w2 ⟨h1, h2⟩ => ⟨_, h1, rfl, k2J_later hJ h2, h2⟩
set_option maxRecDepth 100000 in
theorem s13_17 (hsz : a0.tmps.size = 167) : ∀ o, (opsOf Tryz.f7 13)[17]? = some o → StepN Tryz.prog (opsOf Tryz.f7 13) 36 a0 (k2R sv k px py bx by_ gp gb) (k2J px py bx by_ gp gb W1) k1T 17 o := by
  intro o ho
  have hop : o.op = .call { callee := .value (.func 34), args := #[.tmp 84, .tmp 86], argTypes := #[3, 3] } := atO (f := (·.op)) ho (by kernel_rfl)
  have hgd : o.guard = none := atO (f := (·.guard)) ho (by kernel_rfl)
  refine Step.call (n := 167) hsz (by kernel_rfl) fun vs w1 b hJ hD hS => ⟨by simp [Region.wanted, hgd], 34, #[.int .i64 (-px), .int .i64 (py)], ?_, ?_⟩
  · have e84 := (hS.got 14 84 (atO (f := fun o => (depsN (opsOf Tryz.f7 13) 36 o).contains 14) ho (by kernel_rfl)) (by kernel_rfl) (by decide)).trans (hD 14 (depM (atO (f := fun o => (depsN (opsOf Tryz.f7 13) 36 o).contains 14) ho (by kernel_rfl))))
    have e86 := (hS.got 16 86 (atO (f := fun o => (depsN (opsOf Tryz.f7 13) 36 o).contains 16) ho (by kernel_rfl)) (by kernel_rfl) (by decide)).trans (hD 16 (depM (atO (f := fun o => (depsN (opsOf Tryz.f7 13) 36 o).contains 16) ho (by kernel_rfl))))
    simp [execOp, hop, go_sem, e84, e86]
  · exact (at_c (-px) (py) w1).mono fun e w2 ⟨h1, h2⟩ => ⟨_, h1, rfl, k2J_later hJ h2, h2⟩
set_option maxRecDepth 100000 in
theorem s13_23 (hsz : a0.tmps.size = 167) : ∀ o, (opsOf Tryz.f7 13)[23]? = some o → StepN Tryz.prog (opsOf Tryz.f7 13) 36 a0 (k2R sv k px py bx by_ gp gb) (k2J px py bx by_ gp gb W1) k1T 23 o := by
  intro o ho
  have hop : o.op = .call { callee := .value (.func 34), args := #[.tmp 90, .tmp 92], argTypes := #[3, 3] } := atO (f := (·.op)) ho (by kernel_rfl)
  have hgd : o.guard = none := atO (f := (·.guard)) ho (by kernel_rfl)
  refine Step.call (n := 167) hsz (by kernel_rfl) fun vs w1 b hJ hD hS => ⟨by simp [Region.wanted, hgd], 34, #[.int .i64 (-py), .int .i64 (px)], ?_, ?_⟩
  · have e90 := (hS.got 20 90 (atO (f := fun o => (depsN (opsOf Tryz.f7 13) 36 o).contains 20) ho (by kernel_rfl)) (by kernel_rfl) (by decide)).trans (hD 20 (depM (atO (f := fun o => (depsN (opsOf Tryz.f7 13) 36 o).contains 20) ho (by kernel_rfl))))
    have e92 := (hS.got 22 92 (atO (f := fun o => (depsN (opsOf Tryz.f7 13) 36 o).contains 22) ho (by kernel_rfl)) (by kernel_rfl) (by decide)).trans (hD 22 (depM (atO (f := fun o => (depsN (opsOf Tryz.f7 13) 36 o).contains 22) ho (by kernel_rfl))))
    simp [execOp, hop, go_sem, e90, e92]
  · exact (at_c (-py) (px) w1).mono fun e w2 ⟨h1, h2⟩ => ⟨_, h1, rfl, k2J_later hJ h2, h2⟩
set_option maxRecDepth 100000 in
theorem s13_30 (hsz : a0.tmps.size = 167) : ∀ o, (opsOf Tryz.f7 13)[30]? = some o → StepN Tryz.prog (opsOf Tryz.f7 13) 36 a0 (k2R sv k px py bx by_ gp gb) (k2J px py bx by_ gp gb W1) k1T 30 o := by
  intro o ho
  have hop : o.op = .call { callee := .value (.func 34), args := #[.tmp 96, .tmp 99], argTypes := #[3, 3] } := atO (f := (·.op)) ho (by kernel_rfl)
  have hgd : o.guard = none := atO (f := (·.guard)) ho (by kernel_rfl)
  refine Step.call (n := 167) hsz (by kernel_rfl) fun vs w1 b hJ hD hS => ⟨by simp [Region.wanted, hgd], 34, #[.int .i64 (2 * px), .int .i64 (2 * py)], ?_, ?_⟩
  · have e96 := (hS.got 26 96 (atO (f := fun o => (depsN (opsOf Tryz.f7 13) 36 o).contains 26) ho (by kernel_rfl)) (by kernel_rfl) (by decide)).trans (hD 26 (depM (atO (f := fun o => (depsN (opsOf Tryz.f7 13) 36 o).contains 26) ho (by kernel_rfl))))
    have e99 := (hS.got 29 99 (atO (f := fun o => (depsN (opsOf Tryz.f7 13) 36 o).contains 29) ho (by kernel_rfl)) (by kernel_rfl) (by decide)).trans (hD 29 (depM (atO (f := fun o => (depsN (opsOf Tryz.f7 13) 36 o).contains 29) ho (by kernel_rfl))))
    simp [execOp, hop, go_sem, e96, e99]
  · exact (at_c (2 * px) (2 * py) w1).mono fun e w2 ⟨h1, h2⟩ => ⟨_, h1, rfl, k2J_later hJ h2, h2⟩
set_option maxRecDepth 100000 in
theorem s13_31 (hsz : a0.tmps.size = 167) : ∀ o, (opsOf Tryz.f7 13)[31]? = some o → StepN Tryz.prog (opsOf Tryz.f7 13) 36 a0 (k2R sv k px py bx by_ gp gb) (k2J px py bx by_ gp gb W1) k1T 31 o := by
  intro o ho
  have hop : o.op = .buildSlice 22 4 #[(0, .tmp 81), (1, .tmp 87), (2, .tmp 93), (3, .tmp 100)] := atO (f := (·.op)) ho (by kernel_rfl)
  have hgd : o.guard = none := atO (f := (·.guard)) ho (by kernel_rfl)
  refine Step.val (n := 167) hsz (by kernel_rfl) fun vs w1 b hJ hD hS => ⟨by simp [Region.wanted, hgd], .slice (some ⟨w1.heap.size, 0, none⟩) 4 4, w1.alloc (.cells #[.int .i64 (px + bx), .int .i64 (py + by_), .int .i64 (-px), .int .i64 py, .int .i64 (-py), .int .i64 px, .int .i64 (2 * px), .int .i64 (2 * py)] 37), ?_, ⟨_, rfl, heap_alloc_new w1 _⟩, k2J_later hJ (below_al w1 _), below_al w1 _⟩
  have e81 := (hS.got 11 81 (atO (f := fun o => (depsN (opsOf Tryz.f7 13) 36 o).contains 11) ho (by kernel_rfl)) (by kernel_rfl) (by decide)).trans (hD 11 (depM (atO (f := fun o => (depsN (opsOf Tryz.f7 13) 36 o).contains 11) ho (by kernel_rfl))))
  have e87 := (hS.got 17 87 (atO (f := fun o => (depsN (opsOf Tryz.f7 13) 36 o).contains 17) ho (by kernel_rfl)) (by kernel_rfl) (by decide)).trans (hD 17 (depM (atO (f := fun o => (depsN (opsOf Tryz.f7 13) 36 o).contains 17) ho (by kernel_rfl))))
  have e93 := (hS.got 23 93 (atO (f := fun o => (depsN (opsOf Tryz.f7 13) 36 o).contains 23) ho (by kernel_rfl)) (by kernel_rfl) (by decide)).trans (hD 23 (depM (atO (f := fun o => (depsN (opsOf Tryz.f7 13) 36 o).contains 23) ho (by kernel_rfl))))
  have e100 := (hS.got 30 100 (atO (f := fun o => (depsN (opsOf Tryz.f7 13) 36 o).contains 30) ho (by kernel_rfl)) (by kernel_rfl) (by decide)).trans (hD 30 (depM (atO (f := fun o => (depsN (opsOf Tryz.f7 13) 36 o).contains 30) ho (by kernel_rfl))))
  simp [execOp, hop, go_sem, e81, e87, e93, e100]
set_option maxRecDepth 100000 in
theorem s13_32 (hsz : a0.tmps.size = 167) (h11 : a0.tmps[11]?.getD undef = .int .i64 (k : Int)) : ∀ o, (opsOf Tryz.f7 13)[32]? = some o → StepN Tryz.prog (opsOf Tryz.f7 13) 36 a0 (k2R sv k px py bx by_ gp gb) (k2J px py bx by_ gp gb W1) k1T 32 o := by
  intro o ho
  have hop : o.op = .move (.tmp 11) := atO (f := (·.op)) ho (by kernel_rfl)
  have hgd : o.guard = none := atO (f := (·.guard)) ho (by kernel_rfl)
  refine Step.val (n := 167) hsz (by kernel_rfl) fun vs w1 b hJ hD hS => ⟨by simp [Region.wanted, hgd], .int .i64 (k : Int), w1, ?_, rfl, hJ, Below.refl _ _⟩
  have e11 := (hS.rest 11 (atO (f := fun o => (depsN (opsOf Tryz.f7 13) 36 o).all fun j => dstOf (opsOf Tryz.f7 13) j != some 11) ho (by kernel_rfl))).trans h11
  simp [execOp, hop, go_sem, e11]
set_option maxRecDepth 100000 in
theorem s13_33 (hsz : a0.tmps.size = 167) (hk : k < 4) : ∀ o, (opsOf Tryz.f7 13)[33]? = some o → StepN Tryz.prog (opsOf Tryz.f7 13) 36 a0 (k2R sv k px py bx by_ gp gb) (k2J px py bx by_ gp gb W1) k1T 33 o := by
  intro o ho
  have hop : o.op = .indexAddr 22 (.tmp 101) (.tmp 102) := atO (f := (·.op)) ho (by kernel_rfl)
  have hgd : o.guard = none := atO (f := (·.guard)) ho (by kernel_rfl)
  refine Step.val (n := 167) hsz (by kernel_rfl) fun vs w1 b hJ hD hS => ?_
  obtain ⟨g, h1, h2⟩ := hD 31 (depM (atO (f := fun o => (depsN (opsOf Tryz.f7 13) 36 o).contains 31) ho (by kernel_rfl)))
  refine ⟨by simp [Region.wanted, hgd], .pointer (some ⟨g, k * 2, none⟩), w1, ?_, ⟨g, rfl, h2⟩, hJ, Below.refl _ _⟩
  have e101 := (hS.got 31 101 (atO (f := fun o => (depsN (opsOf Tryz.f7 13) 36 o).contains 31) ho (by kernel_rfl)) (by kernel_rfl) (by decide)).trans h1
  have e102 := (hS.got 32 102 (atO (f := fun o => (depsN (opsOf Tryz.f7 13) 36 o).contains 32) ho (by kernel_rfl)) (by kernel_rfl) (by decide)).trans (hD 32 (depM (atO (f := fun o => (depsN (opsOf Tryz.f7 13) 36 o).contains 32) ho (by kernel_rfl))))
  rcases (by omega : k = 0 ∨ k = 1 ∨ k = 2 ∨ k = 3) with rfl | rfl | rfl | rfl <;> simp [execOp, hop, go_sem, e101, e102]
set_option maxRecDepth 100000 in
theorem s13_34 (hsz : a0.tmps.size = 167) (hk : k < 4) : ∀ o, (opsOf Tryz.f7 13)[34]? = some o → StepN Tryz.prog (opsOf Tryz.f7 13) 36 a0 (k2R sv k px py bx by_ gp gb) (k2J px py bx by_ gp gb W1) k1T 34 o := by
  intro o ho
  have hop : o.op = .load 37 (.tmp 103) := atO (f := (·.op)) ho (by kernel_rfl)
  have hgd : o.guard = none := atO (f := (·.guard)) ho (by kernel_rfl)
  refine Step.val (n := 167) hsz (by kernel_rfl) fun vs w1 b hJ hD hS => ?_
  obtain ⟨g, h1, h2⟩ := hD 33 (depM (atO (f := fun o => (depsN (opsOf Tryz.f7 13) 36 o).contains 33) ho (by kernel_rfl)))
  refine ⟨by simp [Region.wanted, hgd], ptV (trK k ⟨bx, by_⟩ ⟨px, py⟩), w1, ?_, rfl, hJ, Below.refl _ _⟩
  have e103 := (hS.got 33 103 (atO (f := fun o => (depsN (opsOf Tryz.f7 13) 36 o).contains 33) ho (by kernel_rfl)) (by kernel_rfl) (by decide)).trans h1
  have hc := fun j => cell_of_row w1 g j _ _ _ h2
  rcases (by omega : k = 0 ∨ k = 1 ∨ k = 2 ∨ k = 3) with rfl | rfl | rfl | rfl <;> simp [execOp, hop, go_sem, e103, hc, trK]
set_option maxRecDepth 100000 in
theorem s13_35 (hsz : a0.tmps.size = 167) : ∀ o, (opsOf Tryz.f7 13)[35]? = some o → StepN Tryz.prog (opsOf Tryz.f7 13) 36 a0 (k2R sv k px py bx by_ gp gb) (k2J px py bx by_ gp gb W1) k1T 35 o := by
  intro o ho
  have hop : o.op = .buildSlice 22 1 #[(0, .tmp 104)] := atO (f := (·.op)) ho (by kernel_rfl)
  have hgd : o.guard = none := atO (f := (·.guard)) ho (by kernel_rfl)
  refine Step.val (n := 167) hsz (by kernel_rfl) fun vs w1 b hJ hD hS => ⟨by simp [Region.wanted, hgd], .slice (some ⟨w1.heap.size, 0, none⟩) 1 1, w1.alloc (.cells #[.int .i64 (trK k ⟨bx, by_⟩ ⟨px, py⟩).x, .int .i64 (trK k ⟨bx, by_⟩ ⟨px, py⟩).y] 37), ?_, ⟨_, rfl, heap_alloc_new w1 _⟩, k2J_later hJ (below_al w1 _), below_al w1 _⟩
  have e104 := (hS.got 34 104 (atO (f := fun o => (depsN (opsOf Tryz.f7 13) 36 o).contains 34) ho (by kernel_rfl)) (by kernel_rfl) (by decide)).trans (hD 34 (depM (atO (f := fun o => (depsN (opsOf Tryz.f7 13) 36 o).contains 34) ho (by kernel_rfl))))
  simp [execOp, hop, go_sem, e104]
theorem stepsOf (hsz : a0.tmps.size = 167) (h13 : a0.tmps[13]?.getD undef = sv) (h15 : a0.tmps[15]?.getD undef = .pointer (some ⟨gp, 0, none⟩)) (h4 : a0.tmps[4]?.getD undef = .pointer (some ⟨gb, 0, none⟩)) (h11 : a0.tmps[11]?.getD undef = .int .i64 (k : Int)) (hk : k < 4) (hw5 : IntKind.i64.wrap (px + bx) = px + bx) (hw10 : IntKind.i64.wrap (py + by_) = py + by_) (hw14 : IntKind.i64.wrap (-px) = -px) (hw20 : IntKind.i64.wrap (-py) = -py) (hw26 : IntKind.i64.wrap (2 * px) = 2 * px) (hw29 : IntKind.i64.wrap (2 * py) = 2 * py) : ∀ i o, i < 36 → (opsOf Tryz.f7 13)[i]? = some o → StepN Tryz.prog (opsOf Tryz.f7 13) 36 a0 (k2R sv k px py bx by_ gp gb) (k2J px py bx by_ gp gb W1) k1T i o := by
  intro i o hi ho
  match i, hi, ho with
  | 0, _, ho => exact s13_0 hsz h13 o ho
  | 1, _, ho => exact s13_1 hsz h15 o ho
  | 2, _, ho => exact s13_2 hsz  o ho
  | 3, _, ho => exact s13_3 hsz h4 o ho
  | 4, _, ho => exact s13_4 hsz  o ho
  | 5, _, ho => exact s13_5 hsz hw5 o ho
  | 6, _, ho => exact s13_6 hsz h15 o ho
  | 7, _, ho => exact s13_7 hsz  o ho
  | 8, _, ho => exact s13_8 hsz h4 o ho
  | 9, _, ho => exact s13_9 hsz  o ho
  | 10, _, ho => exact s13_10 hsz hw10 o ho
  | 11, _, ho => exact s13_11 hsz  o ho
  | 12, _, ho => exact s13_12 hsz h15 o ho
  | 13, _, ho => exact s13_13 hsz  o ho
  | 14, _, ho => exact s13_14 hsz hw14 o ho
  | 15, _, ho => exact s13_15 hsz h15 o ho
  | 16, _, ho => exact s13_16 hsz  o ho
  | 17, _, ho => exact s13_17 hsz  o ho
  | 18, _, ho => exact s13_18 hsz h15 o ho
  | 19, _, ho => exact s13_19 hsz  o ho
  | 20, _, ho => exact s13_20 hsz hw20 o ho
  | 21, _, ho => exact s13_21 hsz h15 o ho
  | 22, _, ho => exact s13_22 hsz  o ho
  | 23, _, ho => exact s13_23 hsz  o ho
  | 24, _, ho => exact s13_24 hsz h15 o ho
  | 25, _, ho => exact s13_25 hsz  o ho
  | 26, _, ho => exact s13_26 hsz hw26 o ho
  | 27, _, ho => exact s13_27 hsz h15 o ho
  | 28, _, ho => exact s13_28 hsz  o ho
  | 29, _, ho => exact s13_29 hsz hw29 o ho
  | 30, _, ho => exact s13_30 hsz  o ho
  | 31, _, ho => exact s13_31 hsz  o ho
  | 32, _, ho => exact s13_32 hsz h11 o ho
  | 33, _, ho => exact s13_33 hsz hk o ho
  | 34, _, ho => exact s13_34 hsz hk o ho
  | 35, _, ho => exact s13_35 hsz  o ho
  | _ + 36, hi, _ => exact absurd hi (by omega)
end
theorem d13_0 : dstOf (opsOf Tryz.f7 13) 0 = some 70 := by kernel_rfl
theorem d13_1 : dstOf (opsOf Tryz.f7 13) 1 = some 71 := by kernel_rfl
theorem d13_2 : dstOf (opsOf Tryz.f7 13) 2 = some 72 := by kernel_rfl
theorem d13_3 : dstOf (opsOf Tryz.f7 13) 3 = some 73 := by kernel_rfl
theorem d13_4 : dstOf (opsOf Tryz.f7 13) 4 = some 74 := by kernel_rfl
theorem d13_5 : dstOf (opsOf Tryz.f7 13) 5 = some 75 := by kernel_rfl
theorem d13_6 : dstOf (opsOf Tryz.f7 13) 6 = some 76 := by kernel_rfl
theorem d13_7 : dstOf (opsOf Tryz.f7 13) 7 = some 77 := by kernel_rfl
theorem d13_8 : dstOf (opsOf Tryz.f7 13) 8 = some 78 := by kernel_rfl
theorem d13_9 : dstOf (opsOf Tryz.f7 13) 9 = some 79 := by kernel_rfl
theorem d13_10 : dstOf (opsOf Tryz.f7 13) 10 = some 80 := by kernel_rfl
theorem d13_11 : dstOf (opsOf Tryz.f7 13) 11 = some 81 := by kernel_rfl
theorem d13_12 : dstOf (opsOf Tryz.f7 13) 12 = some 82 := by kernel_rfl
theorem d13_13 : dstOf (opsOf Tryz.f7 13) 13 = some 83 := by kernel_rfl
theorem d13_14 : dstOf (opsOf Tryz.f7 13) 14 = some 84 := by kernel_rfl
theorem d13_15 : dstOf (opsOf Tryz.f7 13) 15 = some 85 := by kernel_rfl
theorem d13_16 : dstOf (opsOf Tryz.f7 13) 16 = some 86 := by kernel_rfl
theorem d13_17 : dstOf (opsOf Tryz.f7 13) 17 = some 87 := by kernel_rfl
theorem d13_18 : dstOf (opsOf Tryz.f7 13) 18 = some 88 := by kernel_rfl
theorem d13_19 : dstOf (opsOf Tryz.f7 13) 19 = some 89 := by kernel_rfl
theorem d13_20 : dstOf (opsOf Tryz.f7 13) 20 = some 90 := by kernel_rfl
theorem d13_21 : dstOf (opsOf Tryz.f7 13) 21 = some 91 := by kernel_rfl
theorem d13_22 : dstOf (opsOf Tryz.f7 13) 22 = some 92 := by kernel_rfl
theorem d13_23 : dstOf (opsOf Tryz.f7 13) 23 = some 93 := by kernel_rfl
theorem d13_24 : dstOf (opsOf Tryz.f7 13) 24 = some 94 := by kernel_rfl
theorem d13_25 : dstOf (opsOf Tryz.f7 13) 25 = some 95 := by kernel_rfl
theorem d13_26 : dstOf (opsOf Tryz.f7 13) 26 = some 96 := by kernel_rfl
theorem d13_27 : dstOf (opsOf Tryz.f7 13) 27 = some 97 := by kernel_rfl
theorem d13_28 : dstOf (opsOf Tryz.f7 13) 28 = some 98 := by kernel_rfl
theorem d13_29 : dstOf (opsOf Tryz.f7 13) 29 = some 99 := by kernel_rfl
theorem d13_30 : dstOf (opsOf Tryz.f7 13) 30 = some 100 := by kernel_rfl
theorem d13_31 : dstOf (opsOf Tryz.f7 13) 31 = some 101 := by kernel_rfl
theorem d13_32 : dstOf (opsOf Tryz.f7 13) 32 = some 102 := by kernel_rfl
theorem d13_33 : dstOf (opsOf Tryz.f7 13) 33 = some 103 := by kernel_rfl
theorem d13_34 : dstOf (opsOf Tryz.f7 13) 34 = some 104 := by kernel_rfl
theorem d13_35 : dstOf (opsOf Tryz.f7 13) 35 = some 105 := by kernel_rfl
end Go.Proofs.Wk
