/- THE LAW RatioRing: the operations of its great region, each walked once. -/
import Derived.Test.YtenoganbeccanaaGreatDoorL2G
import Derived.Test.YtenoganbeccanaaGreatDoorRG
namespace Go.Proofs.Wk
open Go.RowKit Go.Once Mt

def AddP (x y z : Txt) : Prop := ∀ (gs gp : Nat) (W : World), JR gs gp W → Calls Tryz.prog 14 #[.string ⟨x.toArray⟩, .string ⟨y.toArray⟩, .pointer (some ⟨gp, 0, none⟩)] W (Ret W (.string ⟨z.toArray⟩))
def MulP (x y z : Txt) : Prop := ∀ (gs gp : Nat) (W : World), JR gs gp W → Calls Tryz.prog 17 #[.string ⟨x.toArray⟩, .string ⟨y.toArray⟩, .pointer (some ⟨gp, 0, none⟩)] W (Ret W (.string ⟨z.toArray⟩))
abbrev rgT (w w' : World) : Prop := Below w.heap.size w w'
/-- What the operations yield. -/
def rgR (gs gp : Nat) (tp tq tr ta tb tc td te tf tg th ti : Txt) : Nat → Value → World → Prop
  | 0, u, _ => u = .func (.func 14) #[] #[.pointer (some ⟨gp, 0, none⟩)]
  | 1, u, _ => u = .string ⟨(tp : Txt).toArray⟩
  | 2, u, _ => u = .string ⟨(tq : Txt).toArray⟩
  | 3, u, _ => u = .string ⟨(ta : Txt).toArray⟩
  | 4, u, _ => u = .func (.func 14) #[] #[.pointer (some ⟨gp, 0, none⟩)]
  | 5, u, _ => u = .string ⟨(tq : Txt).toArray⟩
  | 6, u, _ => u = .string ⟨(tp : Txt).toArray⟩
  | 7, u, _ => u = .string ⟨(ta : Txt).toArray⟩
  | 8, u, _ => u = .agg #[.string ⟨(ta : Txt).toArray⟩, .string ⟨(ta : Txt).toArray⟩]
  | 9, u, _ => u = .func (.func 17) #[] #[.pointer (some ⟨gp, 0, none⟩)]
  | 10, u, _ => u = .string ⟨(tp : Txt).toArray⟩
  | 11, u, _ => u = .string ⟨(tq : Txt).toArray⟩
  | 12, u, _ => u = .string ⟨(td : Txt).toArray⟩
  | 13, u, _ => u = .func (.func 17) #[] #[.pointer (some ⟨gp, 0, none⟩)]
  | 14, u, _ => u = .string ⟨(tq : Txt).toArray⟩
  | 15, u, _ => u = .string ⟨(tp : Txt).toArray⟩
  | 16, u, _ => u = .string ⟨(td : Txt).toArray⟩
  | 17, u, _ => u = .agg #[.string ⟨(td : Txt).toArray⟩, .string ⟨(td : Txt).toArray⟩]
  | 18, u, _ => u = .func (.func 14) #[] #[.pointer (some ⟨gp, 0, none⟩)]
  | 19, u, _ => u = .func (.func 14) #[] #[.pointer (some ⟨gp, 0, none⟩)]
  | 20, u, _ => u = .string ⟨(tp : Txt).toArray⟩
  | 21, u, _ => u = .string ⟨(tq : Txt).toArray⟩
  | 22, u, _ => u = .string ⟨(ta : Txt).toArray⟩
  | 23, u, _ => u = .string ⟨(tr : Txt).toArray⟩
  | 24, u, _ => u = .string ⟨(tc : Txt).toArray⟩
  | 25, u, _ => u = .func (.func 14) #[] #[.pointer (some ⟨gp, 0, none⟩)]
  | 26, u, _ => u = .string ⟨(tp : Txt).toArray⟩
  | 27, u, _ => u = .func (.func 14) #[] #[.pointer (some ⟨gp, 0, none⟩)]
  | 28, u, _ => u = .string ⟨(tq : Txt).toArray⟩
  | 29, u, _ => u = .string ⟨(tr : Txt).toArray⟩
  | 30, u, _ => u = .string ⟨(tb : Txt).toArray⟩
  | 31, u, _ => u = .string ⟨(tc : Txt).toArray⟩
  | 32, u, _ => u = .agg #[.string ⟨(tc : Txt).toArray⟩, .string ⟨(tc : Txt).toArray⟩]
  | 33, u, _ => u = .func (.func 17) #[] #[.pointer (some ⟨gp, 0, none⟩)]
  | 34, u, _ => u = .func (.func 17) #[] #[.pointer (some ⟨gp, 0, none⟩)]
  | 35, u, _ => u = .string ⟨(tp : Txt).toArray⟩
  | 36, u, _ => u = .string ⟨(tq : Txt).toArray⟩
  | 37, u, _ => u = .string ⟨(td : Txt).toArray⟩
  | 38, u, _ => u = .string ⟨(tr : Txt).toArray⟩
  | 39, u, _ => u = .string ⟨(tf : Txt).toArray⟩
  | 40, u, _ => u = .func (.func 17) #[] #[.pointer (some ⟨gp, 0, none⟩)]
  | 41, u, _ => u = .string ⟨(tp : Txt).toArray⟩
  | 42, u, _ => u = .func (.func 17) #[] #[.pointer (some ⟨gp, 0, none⟩)]
  | 43, u, _ => u = .string ⟨(tq : Txt).toArray⟩
  | 44, u, _ => u = .string ⟨(tr : Txt).toArray⟩
  | 45, u, _ => u = .string ⟨(te : Txt).toArray⟩
  | 46, u, _ => u = .string ⟨(tf : Txt).toArray⟩
  | 47, u, _ => u = .agg #[.string ⟨(tf : Txt).toArray⟩, .string ⟨(tf : Txt).toArray⟩]
  | 48, u, _ => u = .func (.func 17) #[] #[.pointer (some ⟨gp, 0, none⟩)]
  | 49, u, _ => u = .string ⟨(tp : Txt).toArray⟩
  | 50, u, _ => u = .func (.func 14) #[] #[.pointer (some ⟨gp, 0, none⟩)]
  | 51, u, _ => u = .string ⟨(tq : Txt).toArray⟩
  | 52, u, _ => u = .string ⟨(tr : Txt).toArray⟩
  | 53, u, _ => u = .string ⟨(tb : Txt).toArray⟩
  | 54, u, _ => u = .string ⟨(tg : Txt).toArray⟩
  | 55, u, _ => u = .func (.func 14) #[] #[.pointer (some ⟨gp, 0, none⟩)]
  | 56, u, _ => u = .func (.func 17) #[] #[.pointer (some ⟨gp, 0, none⟩)]
  | 57, u, _ => u = .string ⟨(tp : Txt).toArray⟩
  | 58, u, _ => u = .string ⟨(tq : Txt).toArray⟩
  | 59, u, _ => u = .string ⟨(td : Txt).toArray⟩
  | 60, u, _ => u = .func (.func 17) #[] #[.pointer (some ⟨gp, 0, none⟩)]
  | 61, u, _ => u = .string ⟨(tp : Txt).toArray⟩
  | 62, u, _ => u = .string ⟨(tr : Txt).toArray⟩
  | 63, u, _ => u = .string ⟨(th : Txt).toArray⟩
  | 64, u, _ => u = .string ⟨(tg : Txt).toArray⟩
  | 65, u, _ => u = .agg #[.string ⟨(tg : Txt).toArray⟩, .string ⟨(tg : Txt).toArray⟩]
  | 66, u, _ => u = .pointer (some ⟨gs, 0, none⟩)
  | 67, u, _ => u = .func (.func 14) #[] #[.pointer (some ⟨gp, 0, none⟩)]
  | 68, u, _ => u = .string ⟨(tp : Txt).toArray⟩
  | 69, u, _ => u = .string ⟨(tq : Txt).toArray⟩
  | 70, u, _ => u = .string ⟨(ta : Txt).toArray⟩
  | 71, u, _ => u = .string ⟨(tq : Txt).toArray⟩
  | 72, u, _ => u = ans2 (tp, 0)
  | 73, u, _ => u = .string ⟨(tp : Txt).toArray⟩
  | 74, u, _ => u = .int .i64 0
  | 75, u, _ => u = .string ⟨(tp : Txt).toArray⟩
  | 76, u, _ => u = .string ⟨(tp : Txt).toArray⟩
  | 77, u, _ => u = .agg #[.string ⟨(tp : Txt).toArray⟩, .string ⟨(tp : Txt).toArray⟩]
  | 78, u, _ => u = .func (.func 14) #[] #[.pointer (some ⟨gp, 0, none⟩)]
  | 79, u, _ => u = .string ⟨(tp : Txt).toArray⟩
  | 80, u, _ => u = .pointer (some ⟨gs, 0, none⟩)
  | 81, u, _ => u = .string ⟨(tp : Txt).toArray⟩
  | 82, u, _ => u = ans2 (ti, 0)
  | 83, u, _ => u = .string ⟨(ti : Txt).toArray⟩
  | 84, u, _ => u = .int .i64 0
  | 85, u, _ => u = .string ⟨(ti : Txt).toArray⟩
  | 86, u, _ => u = .string ⟨([48] : Txt).toArray⟩
  | 87, u, _ => u = .agg #[.string ⟨([48] : Txt).toArray⟩, .string ⟨([48] : Txt).toArray⟩]
  | 88, u, _ => u = .pointer (some ⟨gs, 0, none⟩)
  | 89, u, _ => u = .string ⟨(tp : Txt).toArray⟩
  | 90, u, _ => u = .string ⟨(tq : Txt).toArray⟩
  | 91, u, _ => u = .string ⟨(tr : Txt).toArray⟩
  | 92, u, w => ∃ g, u = .slice (some ⟨g, 0, none⟩) 3 3 ∧ RSp w g [tp, tq, tr]
  | 93, u, _ => u = ans2 (tc, 0)
  | 94, u, _ => u = .string ⟨(tc : Txt).toArray⟩
  | 95, u, _ => u = .int .i64 0
  | 96, u, _ => u = .string ⟨(tc : Txt).toArray⟩
  | 97, u, _ => u = .func (.func 14) #[] #[.pointer (some ⟨gp, 0, none⟩)]
  | 98, u, _ => u = .string ⟨(tp : Txt).toArray⟩
  | 99, u, _ => u = .func (.func 14) #[] #[.pointer (some ⟨gp, 0, none⟩)]
  | 100, u, _ => u = .string ⟨(tq : Txt).toArray⟩
  | 101, u, _ => u = .string ⟨(tr : Txt).toArray⟩
  | 102, u, _ => u = .string ⟨(tb : Txt).toArray⟩
  | 103, u, _ => u = .string ⟨(tc : Txt).toArray⟩
  | 104, u, _ => u = .agg #[.string ⟨(tc : Txt).toArray⟩, .string ⟨(tc : Txt).toArray⟩]
  | 105, u, w => ∃ g, u = .slice (some ⟨g, 0, none⟩) 8 8 ∧ gp < g ∧ w.heap[g]? = some (.cells #[.string ⟨(ta : Txt).toArray⟩, .string ⟨(ta : Txt).toArray⟩, .string ⟨(td : Txt).toArray⟩, .string ⟨(td : Txt).toArray⟩, .string ⟨(tc : Txt).toArray⟩, .string ⟨(tc : Txt).toArray⟩, .string ⟨(tf : Txt).toArray⟩, .string ⟨(tf : Txt).toArray⟩, .string ⟨(tg : Txt).toArray⟩, .string ⟨(tg : Txt).toArray⟩, .string ⟨(tp : Txt).toArray⟩, .string ⟨(tp : Txt).toArray⟩, .string ⟨([48] : Txt).toArray⟩, .string ⟨([48] : Txt).toArray⟩, .string ⟨(tc : Txt).toArray⟩, .string ⟨(tc : Txt).toArray⟩] 33 (0, 0))
  | 106, u, w => ∃ g, u = .slice (some ⟨g, 0, none⟩) 8 8 ∧ gp < g ∧ w.heap[g]? = some (.cells #[.string ⟨(ta : Txt).toArray⟩, .string ⟨(ta : Txt).toArray⟩, .string ⟨(td : Txt).toArray⟩, .string ⟨(td : Txt).toArray⟩, .string ⟨(tc : Txt).toArray⟩, .string ⟨(tc : Txt).toArray⟩, .string ⟨(tf : Txt).toArray⟩, .string ⟨(tf : Txt).toArray⟩, .string ⟨(tg : Txt).toArray⟩, .string ⟨(tg : Txt).toArray⟩, .string ⟨(tp : Txt).toArray⟩, .string ⟨(tp : Txt).toArray⟩, .string ⟨([48] : Txt).toArray⟩, .string ⟨([48] : Txt).toArray⟩, .string ⟨(tc : Txt).toArray⟩, .string ⟨(tc : Txt).toArray⟩] 33 (0, 0))
  | _, _, _ => True
theorem rg_keep (gs gp : Nat) (tp tq tr ta tb tc td te tf tg th ti : Txt) : ∀ i u w w', rgR gs gp tp tq tr ta tb tc td te tf tg th ti i u w → rgT w w' → rgR gs gp tp tq tr ta tb tc td te tf tg th ti i u w' := by
  intro i u w w' h hT
  match i, h with
  | 0, h => exact h
  | 1, h => exact h
  | 2, h => exact h
  | 3, h => exact h
  | 4, h => exact h
  | 5, h => exact h
  | 6, h => exact h
  | 7, h => exact h
  | 8, h => exact h
  | 9, h => exact h
  | 10, h => exact h
  | 11, h => exact h
  | 12, h => exact h
  | 13, h => exact h
  | 14, h => exact h
  | 15, h => exact h
  | 16, h => exact h
  | 17, h => exact h
  | 18, h => exact h
  | 19, h => exact h
  | 20, h => exact h
  | 21, h => exact h
  | 22, h => exact h
  | 23, h => exact h
  | 24, h => exact h
  | 25, h => exact h
  | 26, h => exact h
  | 27, h => exact h
  | 28, h => exact h
  | 29, h => exact h
  | 30, h => exact h
  | 31, h => exact h
  | 32, h => exact h
  | 33, h => exact h
  | 34, h => exact h
  | 35, h => exact h
  | 36, h => exact h
  | 37, h => exact h
  | 38, h => exact h
  | 39, h => exact h
  | 40, h => exact h
  | 41, h => exact h
  | 42, h => exact h
  | 43, h => exact h
  | 44, h => exact h
  | 45, h => exact h
  | 46, h => exact h
  | 47, h => exact h
  | 48, h => exact h
  | 49, h => exact h
  | 50, h => exact h
  | 51, h => exact h
  | 52, h => exact h
  | 53, h => exact h
  | 54, h => exact h
  | 55, h => exact h
  | 56, h => exact h
  | 57, h => exact h
  | 58, h => exact h
  | 59, h => exact h
  | 60, h => exact h
  | 61, h => exact h
  | 62, h => exact h
  | 63, h => exact h
  | 64, h => exact h
  | 65, h => exact h
  | 66, h => exact h
  | 67, h => exact h
  | 68, h => exact h
  | 69, h => exact h
  | 70, h => exact h
  | 71, h => exact h
  | 72, h => exact h
  | 73, h => exact h
  | 74, h => exact h
  | 75, h => exact h
  | 76, h => exact h
  | 77, h => exact h
  | 78, h => exact h
  | 79, h => exact h
  | 80, h => exact h
  | 81, h => exact h
  | 82, h => exact h
  | 83, h => exact h
  | 84, h => exact h
  | 85, h => exact h
  | 86, h => exact h
  | 87, h => exact h
  | 88, h => exact h
  | 89, h => exact h
  | 90, h => exact h
  | 91, h => exact h
  | 92, h => obtain ⟨g, h1, h2⟩ := h; exact ⟨g, h1, RSp.later hT h2⟩
  | 93, h => exact h
  | 94, h => exact h
  | 95, h => exact h
  | 96, h => exact h
  | 97, h => exact h
  | 98, h => exact h
  | 99, h => exact h
  | 100, h => exact h
  | 101, h => exact h
  | 102, h => exact h
  | 103, h => exact h
  | 104, h => exact h
  | 105, h => obtain ⟨g, h1, h2, h3⟩ := h; exact ⟨g, h1, h2, (hT.block _ (Array.getElem?_eq_some_iff.1 h3).1).trans h3⟩
  | 106, h => obtain ⟨g, h1, h2, h3⟩ := h; exact ⟨g, h1, h2, (hT.block _ (Array.getElem?_eq_some_iff.1 h3).1).trans h3⟩
  | _ + 107, _ => trivial
section
variable {gs gp : Nat} {tp tq tr ta tb tc td te tf tg th ti : Txt} {w0 : World} {a0 : Act}
set_option maxRecDepth 100000 in
theorem g6_0 (hsz : a0.tmps.size = 182) (h8 : a0.tmps[8]?.getD undef = .func (.func 14) #[] #[.pointer (some ⟨gp, 0, none⟩)]) : ∀ o, (opsOf Tryz.f3 6)[0]? = some o → StepN Tryz.prog (opsOf Tryz.f3 6) 107 a0 (rgR gs gp tp tq tr ta tb tc td te tf tg th ti) (JB w0 gs gp) rgT 0 o := by
  intro o ho
  have hop : o.op = .move (.tmp 8) := atO (f := (·.op)) ho (by kernel_rfl)
  have hgd : o.guard = none := atO (f := (·.guard)) ho (by kernel_rfl)
  refine Step.val (n := 182) hsz (by kernel_rfl) fun vs w1 b hJ hD hS => ⟨by simp [Region.wanted, hgd], .func (.func 14) #[] #[.pointer (some ⟨gp, 0, none⟩)], w1, ?_, rfl, hJ, Below.refl _ _⟩
  have e8 := (hS.rest 8 (atO (f := fun o => (depsN (opsOf Tryz.f3 6) 107 o).all fun j => dstOf (opsOf Tryz.f3 6) j != some 8) ho (by kernel_rfl))).trans h8
  simp [execOp, hop, go_sem, e8]
set_option maxRecDepth 100000 in
theorem g6_1 (hsz : a0.tmps.size = 182) (h0 : a0.tmps[0]?.getD undef = .string ⟨(tp : Txt).toArray⟩) : ∀ o, (opsOf Tryz.f3 6)[1]? = some o → StepN Tryz.prog (opsOf Tryz.f3 6) 107 a0 (rgR gs gp tp tq tr ta tb tc td te tf tg th ti) (JB w0 gs gp) rgT 1 o := by
  intro o ho
  have hop : o.op = .move (.tmp 0) := atO (f := (·.op)) ho (by kernel_rfl)
  have hgd : o.guard = none := atO (f := (·.guard)) ho (by kernel_rfl)
  refine Step.val (n := 182) hsz (by kernel_rfl) fun vs w1 b hJ hD hS => ⟨by simp [Region.wanted, hgd], .string ⟨(tp : Txt).toArray⟩, w1, ?_, rfl, hJ, Below.refl _ _⟩
  have e0 := (hS.rest 0 (atO (f := fun o => (depsN (opsOf Tryz.f3 6) 107 o).all fun j => dstOf (opsOf Tryz.f3 6) j != some 0) ho (by kernel_rfl))).trans h0
  simp [execOp, hop, go_sem, e0]
set_option maxRecDepth 100000 in
theorem g6_2 (hsz : a0.tmps.size = 182) (h1 : a0.tmps[1]?.getD undef = .string ⟨(tq : Txt).toArray⟩) : ∀ o, (opsOf Tryz.f3 6)[2]? = some o → StepN Tryz.prog (opsOf Tryz.f3 6) 107 a0 (rgR gs gp tp tq tr ta tb tc td te tf tg th ti) (JB w0 gs gp) rgT 2 o := by
  intro o ho
  have hop : o.op = .move (.tmp 1) := atO (f := (·.op)) ho (by kernel_rfl)
  have hgd : o.guard = none := atO (f := (·.guard)) ho (by kernel_rfl)
  refine Step.val (n := 182) hsz (by kernel_rfl) fun vs w1 b hJ hD hS => ⟨by simp [Region.wanted, hgd], .string ⟨(tq : Txt).toArray⟩, w1, ?_, rfl, hJ, Below.refl _ _⟩
  have e1 := (hS.rest 1 (atO (f := fun o => (depsN (opsOf Tryz.f3 6) 107 o).all fun j => dstOf (opsOf Tryz.f3 6) j != some 1) ho (by kernel_rfl))).trans h1
  simp [execOp, hop, go_sem, e1]
set_option maxRecDepth 100000 in
theorem g6_3 (hsz : a0.tmps.size = 182) (HA1 : AddP tp tq ta) : ∀ o, (opsOf Tryz.f3 6)[3]? = some o → StepN Tryz.prog (opsOf Tryz.f3 6) 107 a0 (rgR gs gp tp tq tr ta tb tc td te tf tg th ti) (JB w0 gs gp) rgT 3 o := by
  intro o ho
  have hop : o.op = .call { callee := .value (.tmp 26), args := #[.tmp 27, .tmp 28], argTypes := #[22, 22] } := atO (f := (·.op)) ho (by kernel_rfl)
  have hgd : o.guard = none := atO (f := (·.guard)) ho (by kernel_rfl)
  refine Step.call (n := 182) hsz (by kernel_rfl) fun vs w1 b hJ hD hS => ⟨by simp [Region.wanted, hgd], 14, #[.string ⟨(tp : Txt).toArray⟩, .string ⟨(tq : Txt).toArray⟩, .pointer (some ⟨gp, 0, none⟩)], ?_, ?_⟩
  · have e26 := (hS.got 0 26 (atO (f := fun o => (depsN (opsOf Tryz.f3 6) 107 o).contains 0) ho (by kernel_rfl)) (by kernel_rfl) (by decide)).trans (hD 0 (depM (atO (f := fun o => (depsN (opsOf Tryz.f3 6) 107 o).contains 0) ho (by kernel_rfl))))
    have e27 := (hS.got 1 27 (atO (f := fun o => (depsN (opsOf Tryz.f3 6) 107 o).contains 1) ho (by kernel_rfl)) (by kernel_rfl) (by decide)).trans (hD 1 (depM (atO (f := fun o => (depsN (opsOf Tryz.f3 6) 107 o).contains 1) ho (by kernel_rfl))))
    have e28 := (hS.got 2 28 (atO (f := fun o => (depsN (opsOf Tryz.f3 6) 107 o).contains 2) ho (by kernel_rfl)) (by kernel_rfl) (by decide)).trans (hD 2 (depM (atO (f := fun o => (depsN (opsOf Tryz.f3 6) 107 o).contains 2) ho (by kernel_rfl))))
    simp [execOp, hop, go_sem, e26, e27, e28]
  · exact (HA1 gs gp w1 hJ.j).mono fun e w2 ⟨h1, h2⟩ => ⟨_, h1, rfl, JB.later hJ h2, h2⟩
set_option maxRecDepth 100000 in
theorem g6_4 (hsz : a0.tmps.size = 182) (h8 : a0.tmps[8]?.getD undef = .func (.func 14) #[] #[.pointer (some ⟨gp, 0, none⟩)]) : ∀ o, (opsOf Tryz.f3 6)[4]? = some o → StepN Tryz.prog (opsOf Tryz.f3 6) 107 a0 (rgR gs gp tp tq tr ta tb tc td te tf tg th ti) (JB w0 gs gp) rgT 4 o := by
  intro o ho
  have hop : o.op = .move (.tmp 8) := atO (f := (·.op)) ho (by kernel_rfl)
  have hgd : o.guard = none := atO (f := (·.guard)) ho (by kernel_rfl)
  refine Step.val (n := 182) hsz (by kernel_rfl) fun vs w1 b hJ hD hS => ⟨by simp [Region.wanted, hgd], .func (.func 14) #[] #[.pointer (some ⟨gp, 0, none⟩)], w1, ?_, rfl, hJ, Below.refl _ _⟩
  have e8 := (hS.rest 8 (atO (f := fun o => (depsN (opsOf Tryz.f3 6) 107 o).all fun j => dstOf (opsOf Tryz.f3 6) j != some 8) ho (by kernel_rfl))).trans h8
  simp [execOp, hop, go_sem, e8]
set_option maxRecDepth 100000 in
theorem g6_5 (hsz : a0.tmps.size = 182) (h1 : a0.tmps[1]?.getD undef = .string ⟨(tq : Txt).toArray⟩) : ∀ o, (opsOf Tryz.f3 6)[5]? = some o → StepN Tryz.prog (opsOf Tryz.f3 6) 107 a0 (rgR gs gp tp tq tr ta tb tc td te tf tg th ti) (JB w0 gs gp) rgT 5 o := by
  intro o ho
  have hop : o.op = .move (.tmp 1) := atO (f := (·.op)) ho (by kernel_rfl)
  have hgd : o.guard = none := atO (f := (·.guard)) ho (by kernel_rfl)
  refine Step.val (n := 182) hsz (by kernel_rfl) fun vs w1 b hJ hD hS => ⟨by simp [Region.wanted, hgd], .string ⟨(tq : Txt).toArray⟩, w1, ?_, rfl, hJ, Below.refl _ _⟩
  have e1 := (hS.rest 1 (atO (f := fun o => (depsN (opsOf Tryz.f3 6) 107 o).all fun j => dstOf (opsOf Tryz.f3 6) j != some 1) ho (by kernel_rfl))).trans h1
  simp [execOp, hop, go_sem, e1]
set_option maxRecDepth 100000 in
theorem g6_6 (hsz : a0.tmps.size = 182) (h0 : a0.tmps[0]?.getD undef = .string ⟨(tp : Txt).toArray⟩) : ∀ o, (opsOf Tryz.f3 6)[6]? = some o → StepN Tryz.prog (opsOf Tryz.f3 6) 107 a0 (rgR gs gp tp tq tr ta tb tc td te tf tg th ti) (JB w0 gs gp) rgT 6 o := by
  intro o ho
  have hop : o.op = .move (.tmp 0) := atO (f := (·.op)) ho (by kernel_rfl)
  have hgd : o.guard = none := atO (f := (·.guard)) ho (by kernel_rfl)
  refine Step.val (n := 182) hsz (by kernel_rfl) fun vs w1 b hJ hD hS => ⟨by simp [Region.wanted, hgd], .string ⟨(tp : Txt).toArray⟩, w1, ?_, rfl, hJ, Below.refl _ _⟩
  have e0 := (hS.rest 0 (atO (f := fun o => (depsN (opsOf Tryz.f3 6) 107 o).all fun j => dstOf (opsOf Tryz.f3 6) j != some 0) ho (by kernel_rfl))).trans h0
  simp [execOp, hop, go_sem, e0]
set_option maxRecDepth 100000 in
theorem g6_7 (hsz : a0.tmps.size = 182) (HA2 : AddP tq tp ta) : ∀ o, (opsOf Tryz.f3 6)[7]? = some o → StepN Tryz.prog (opsOf Tryz.f3 6) 107 a0 (rgR gs gp tp tq tr ta tb tc td te tf tg th ti) (JB w0 gs gp) rgT 7 o := by
  intro o ho
  have hop : o.op = .call { callee := .value (.tmp 30), args := #[.tmp 31, .tmp 32], argTypes := #[22, 22] } := atO (f := (·.op)) ho (by kernel_rfl)
  have hgd : o.guard = none := atO (f := (·.guard)) ho (by kernel_rfl)
  refine Step.call (n := 182) hsz (by kernel_rfl) fun vs w1 b hJ hD hS => ⟨by simp [Region.wanted, hgd], 14, #[.string ⟨(tq : Txt).toArray⟩, .string ⟨(tp : Txt).toArray⟩, .pointer (some ⟨gp, 0, none⟩)], ?_, ?_⟩
  · have e30 := (hS.got 4 30 (atO (f := fun o => (depsN (opsOf Tryz.f3 6) 107 o).contains 4) ho (by kernel_rfl)) (by kernel_rfl) (by decide)).trans (hD 4 (depM (atO (f := fun o => (depsN (opsOf Tryz.f3 6) 107 o).contains 4) ho (by kernel_rfl))))
    have e31 := (hS.got 5 31 (atO (f := fun o => (depsN (opsOf Tryz.f3 6) 107 o).contains 5) ho (by kernel_rfl)) (by kernel_rfl) (by decide)).trans (hD 5 (depM (atO (f := fun o => (depsN (opsOf Tryz.f3 6) 107 o).contains 5) ho (by kernel_rfl))))
    have e32 := (hS.got 6 32 (atO (f := fun o => (depsN (opsOf Tryz.f3 6) 107 o).contains 6) ho (by kernel_rfl)) (by kernel_rfl) (by decide)).trans (hD 6 (depM (atO (f := fun o => (depsN (opsOf Tryz.f3 6) 107 o).contains 6) ho (by kernel_rfl))))
    simp [execOp, hop, go_sem, e30, e31, e32]
  · exact (HA2 gs gp w1 hJ.j).mono fun e w2 ⟨h1, h2⟩ => ⟨_, h1, rfl, JB.later hJ h2, h2⟩
set_option maxRecDepth 100000 in
theorem g6_8 (hsz : a0.tmps.size = 182) : ∀ o, (opsOf Tryz.f3 6)[8]? = some o → StepN Tryz.prog (opsOf Tryz.f3 6) 107 a0 (rgR gs gp tp tq tr ta tb tc td te tf tg th ti) (JB w0 gs gp) rgT 8 o := by
  intro o ho
  have hop : o.op = .build 33 #[(0, .tmp 29), (1, .tmp 33)] := atO (f := (·.op)) ho (by kernel_rfl)
  have hgd : o.guard = none := atO (f := (·.guard)) ho (by kernel_rfl)
  refine Step.val (n := 182) hsz (by kernel_rfl) fun vs w1 b hJ hD hS => ⟨by simp [Region.wanted, hgd], .agg #[.string ⟨(ta : Txt).toArray⟩, .string ⟨(ta : Txt).toArray⟩], w1, ?_, rfl, hJ, Below.refl _ _⟩
  have e29 := (hS.got 3 29 (atO (f := fun o => (depsN (opsOf Tryz.f3 6) 107 o).contains 3) ho (by kernel_rfl)) (by kernel_rfl) (by decide)).trans (hD 3 (depM (atO (f := fun o => (depsN (opsOf Tryz.f3 6) 107 o).contains 3) ho (by kernel_rfl))))
  have e33 := (hS.got 7 33 (atO (f := fun o => (depsN (opsOf Tryz.f3 6) 107 o).contains 7) ho (by kernel_rfl)) (by kernel_rfl) (by decide)).trans (hD 7 (depM (atO (f := fun o => (depsN (opsOf Tryz.f3 6) 107 o).contains 7) ho (by kernel_rfl))))
  simp [execOp, hop, go_sem, e29, e33]
set_option maxRecDepth 100000 in
theorem g6_9 (hsz : a0.tmps.size = 182) (h9 : a0.tmps[9]?.getD undef = .func (.func 17) #[] #[.pointer (some ⟨gp, 0, none⟩)]) : ∀ o, (opsOf Tryz.f3 6)[9]? = some o → StepN Tryz.prog (opsOf Tryz.f3 6) 107 a0 (rgR gs gp tp tq tr ta tb tc td te tf tg th ti) (JB w0 gs gp) rgT 9 o := by
  intro o ho
  have hop : o.op = .move (.tmp 9) := atO (f := (·.op)) ho (by kernel_rfl)
  have hgd : o.guard = none := atO (f := (·.guard)) ho (by kernel_rfl)
  refine Step.val (n := 182) hsz (by kernel_rfl) fun vs w1 b hJ hD hS => ⟨by simp [Region.wanted, hgd], .func (.func 17) #[] #[.pointer (some ⟨gp, 0, none⟩)], w1, ?_, rfl, hJ, Below.refl _ _⟩
  have e9 := (hS.rest 9 (atO (f := fun o => (depsN (opsOf Tryz.f3 6) 107 o).all fun j => dstOf (opsOf Tryz.f3 6) j != some 9) ho (by kernel_rfl))).trans h9
  simp [execOp, hop, go_sem, e9]
set_option maxRecDepth 100000 in
theorem g6_10 (hsz : a0.tmps.size = 182) (h0 : a0.tmps[0]?.getD undef = .string ⟨(tp : Txt).toArray⟩) : ∀ o, (opsOf Tryz.f3 6)[10]? = some o → StepN Tryz.prog (opsOf Tryz.f3 6) 107 a0 (rgR gs gp tp tq tr ta tb tc td te tf tg th ti) (JB w0 gs gp) rgT 10 o := by
  intro o ho
  have hop : o.op = .move (.tmp 0) := atO (f := (·.op)) ho (by kernel_rfl)
  have hgd : o.guard = none := atO (f := (·.guard)) ho (by kernel_rfl)
  refine Step.val (n := 182) hsz (by kernel_rfl) fun vs w1 b hJ hD hS => ⟨by simp [Region.wanted, hgd], .string ⟨(tp : Txt).toArray⟩, w1, ?_, rfl, hJ, Below.refl _ _⟩
  have e0 := (hS.rest 0 (atO (f := fun o => (depsN (opsOf Tryz.f3 6) 107 o).all fun j => dstOf (opsOf Tryz.f3 6) j != some 0) ho (by kernel_rfl))).trans h0
  simp [execOp, hop, go_sem, e0]
set_option maxRecDepth 100000 in
theorem g6_11 (hsz : a0.tmps.size = 182) (h1 : a0.tmps[1]?.getD undef = .string ⟨(tq : Txt).toArray⟩) : ∀ o, (opsOf Tryz.f3 6)[11]? = some o → StepN Tryz.prog (opsOf Tryz.f3 6) 107 a0 (rgR gs gp tp tq tr ta tb tc td te tf tg th ti) (JB w0 gs gp) rgT 11 o := by
  intro o ho
  have hop : o.op = .move (.tmp 1) := atO (f := (·.op)) ho (by kernel_rfl)
  have hgd : o.guard = none := atO (f := (·.guard)) ho (by kernel_rfl)
  refine Step.val (n := 182) hsz (by kernel_rfl) fun vs w1 b hJ hD hS => ⟨by simp [Region.wanted, hgd], .string ⟨(tq : Txt).toArray⟩, w1, ?_, rfl, hJ, Below.refl _ _⟩
  have e1 := (hS.rest 1 (atO (f := fun o => (depsN (opsOf Tryz.f3 6) 107 o).all fun j => dstOf (opsOf Tryz.f3 6) j != some 1) ho (by kernel_rfl))).trans h1
  simp [execOp, hop, go_sem, e1]
set_option maxRecDepth 100000 in
theorem g6_12 (hsz : a0.tmps.size = 182) (HM1 : MulP tp tq td) : ∀ o, (opsOf Tryz.f3 6)[12]? = some o → StepN Tryz.prog (opsOf Tryz.f3 6) 107 a0 (rgR gs gp tp tq tr ta tb tc td te tf tg th ti) (JB w0 gs gp) rgT 12 o := by
  intro o ho
  have hop : o.op = .call { callee := .value (.tmp 35), args := #[.tmp 36, .tmp 37], argTypes := #[22, 22] } := atO (f := (·.op)) ho (by kernel_rfl)
  have hgd : o.guard = none := atO (f := (·.guard)) ho (by kernel_rfl)
  refine Step.call (n := 182) hsz (by kernel_rfl) fun vs w1 b hJ hD hS => ⟨by simp [Region.wanted, hgd], 17, #[.string ⟨(tp : Txt).toArray⟩, .string ⟨(tq : Txt).toArray⟩, .pointer (some ⟨gp, 0, none⟩)], ?_, ?_⟩
  · have e35 := (hS.got 9 35 (atO (f := fun o => (depsN (opsOf Tryz.f3 6) 107 o).contains 9) ho (by kernel_rfl)) (by kernel_rfl) (by decide)).trans (hD 9 (depM (atO (f := fun o => (depsN (opsOf Tryz.f3 6) 107 o).contains 9) ho (by kernel_rfl))))
    have e36 := (hS.got 10 36 (atO (f := fun o => (depsN (opsOf Tryz.f3 6) 107 o).contains 10) ho (by kernel_rfl)) (by kernel_rfl) (by decide)).trans (hD 10 (depM (atO (f := fun o => (depsN (opsOf Tryz.f3 6) 107 o).contains 10) ho (by kernel_rfl))))
    have e37 := (hS.got 11 37 (atO (f := fun o => (depsN (opsOf Tryz.f3 6) 107 o).contains 11) ho (by kernel_rfl)) (by kernel_rfl) (by decide)).trans (hD 11 (depM (atO (f := fun o => (depsN (opsOf Tryz.f3 6) 107 o).contains 11) ho (by kernel_rfl))))
    simp [execOp, hop, go_sem, e35, e36, e37]
  · exact (HM1 gs gp w1 hJ.j).mono fun e w2 ⟨h1, h2⟩ => ⟨_, h1, rfl, JB.later hJ h2, h2⟩
set_option maxRecDepth 100000 in
theorem g6_13 (hsz : a0.tmps.size = 182) (h9 : a0.tmps[9]?.getD undef = .func (.func 17) #[] #[.pointer (some ⟨gp, 0, none⟩)]) : ∀ o, (opsOf Tryz.f3 6)[13]? = some o → StepN Tryz.prog (opsOf Tryz.f3 6) 107 a0 (rgR gs gp tp tq tr ta tb tc td te tf tg th ti) (JB w0 gs gp) rgT 13 o := by
  intro o ho
  have hop : o.op = .move (.tmp 9) := atO (f := (·.op)) ho (by kernel_rfl)
  have hgd : o.guard = none := atO (f := (·.guard)) ho (by kernel_rfl)
  refine Step.val (n := 182) hsz (by kernel_rfl) fun vs w1 b hJ hD hS => ⟨by simp [Region.wanted, hgd], .func (.func 17) #[] #[.pointer (some ⟨gp, 0, none⟩)], w1, ?_, rfl, hJ, Below.refl _ _⟩
  have e9 := (hS.rest 9 (atO (f := fun o => (depsN (opsOf Tryz.f3 6) 107 o).all fun j => dstOf (opsOf Tryz.f3 6) j != some 9) ho (by kernel_rfl))).trans h9
  simp [execOp, hop, go_sem, e9]
set_option maxRecDepth 100000 in
theorem g6_14 (hsz : a0.tmps.size = 182) (h1 : a0.tmps[1]?.getD undef = .string ⟨(tq : Txt).toArray⟩) : ∀ o, (opsOf Tryz.f3 6)[14]? = some o → StepN Tryz.prog (opsOf Tryz.f3 6) 107 a0 (rgR gs gp tp tq tr ta tb tc td te tf tg th ti) (JB w0 gs gp) rgT 14 o := by
  intro o ho
  have hop : o.op = .move (.tmp 1) := atO (f := (·.op)) ho (by kernel_rfl)
  have hgd : o.guard = none := atO (f := (·.guard)) ho (by kernel_rfl)
  refine Step.val (n := 182) hsz (by kernel_rfl) fun vs w1 b hJ hD hS => ⟨by simp [Region.wanted, hgd], .string ⟨(tq : Txt).toArray⟩, w1, ?_, rfl, hJ, Below.refl _ _⟩
  have e1 := (hS.rest 1 (atO (f := fun o => (depsN (opsOf Tryz.f3 6) 107 o).all fun j => dstOf (opsOf Tryz.f3 6) j != some 1) ho (by kernel_rfl))).trans h1
  simp [execOp, hop, go_sem, e1]
set_option maxRecDepth 100000 in
theorem g6_15 (hsz : a0.tmps.size = 182) (h0 : a0.tmps[0]?.getD undef = .string ⟨(tp : Txt).toArray⟩) : ∀ o, (opsOf Tryz.f3 6)[15]? = some o → StepN Tryz.prog (opsOf Tryz.f3 6) 107 a0 (rgR gs gp tp tq tr ta tb tc td te tf tg th ti) (JB w0 gs gp) rgT 15 o := by
  intro o ho
  have hop : o.op = .move (.tmp 0) := atO (f := (·.op)) ho (by kernel_rfl)
  have hgd : o.guard = none := atO (f := (·.guard)) ho (by kernel_rfl)
  refine Step.val (n := 182) hsz (by kernel_rfl) fun vs w1 b hJ hD hS => ⟨by simp [Region.wanted, hgd], .string ⟨(tp : Txt).toArray⟩, w1, ?_, rfl, hJ, Below.refl _ _⟩
  have e0 := (hS.rest 0 (atO (f := fun o => (depsN (opsOf Tryz.f3 6) 107 o).all fun j => dstOf (opsOf Tryz.f3 6) j != some 0) ho (by kernel_rfl))).trans h0
  simp [execOp, hop, go_sem, e0]
set_option maxRecDepth 100000 in
theorem g6_16 (hsz : a0.tmps.size = 182) (HM2 : MulP tq tp td) : ∀ o, (opsOf Tryz.f3 6)[16]? = some o → StepN Tryz.prog (opsOf Tryz.f3 6) 107 a0 (rgR gs gp tp tq tr ta tb tc td te tf tg th ti) (JB w0 gs gp) rgT 16 o := by
  intro o ho
  have hop : o.op = .call { callee := .value (.tmp 39), args := #[.tmp 40, .tmp 41], argTypes := #[22, 22] } := atO (f := (·.op)) ho (by kernel_rfl)
  have hgd : o.guard = none := atO (f := (·.guard)) ho (by kernel_rfl)
  refine Step.call (n := 182) hsz (by kernel_rfl) fun vs w1 b hJ hD hS => ⟨by simp [Region.wanted, hgd], 17, #[.string ⟨(tq : Txt).toArray⟩, .string ⟨(tp : Txt).toArray⟩, .pointer (some ⟨gp, 0, none⟩)], ?_, ?_⟩
  · have e39 := (hS.got 13 39 (atO (f := fun o => (depsN (opsOf Tryz.f3 6) 107 o).contains 13) ho (by kernel_rfl)) (by kernel_rfl) (by decide)).trans (hD 13 (depM (atO (f := fun o => (depsN (opsOf Tryz.f3 6) 107 o).contains 13) ho (by kernel_rfl))))
    have e40 := (hS.got 14 40 (atO (f := fun o => (depsN (opsOf Tryz.f3 6) 107 o).contains 14) ho (by kernel_rfl)) (by kernel_rfl) (by decide)).trans (hD 14 (depM (atO (f := fun o => (depsN (opsOf Tryz.f3 6) 107 o).contains 14) ho (by kernel_rfl))))
    have e41 := (hS.got 15 41 (atO (f := fun o => (depsN (opsOf Tryz.f3 6) 107 o).contains 15) ho (by kernel_rfl)) (by kernel_rfl) (by decide)).trans (hD 15 (depM (atO (f := fun o => (depsN (opsOf Tryz.f3 6) 107 o).contains 15) ho (by kernel_rfl))))
    simp [execOp, hop, go_sem, e39, e40, e41]
  · exact (HM2 gs gp w1 hJ.j).mono fun e w2 ⟨h1, h2⟩ => ⟨_, h1, rfl, JB.later hJ h2, h2⟩
set_option maxRecDepth 100000 in
theorem g6_17 (hsz : a0.tmps.size = 182) : ∀ o, (opsOf Tryz.f3 6)[17]? = some o → StepN Tryz.prog (opsOf Tryz.f3 6) 107 a0 (rgR gs gp tp tq tr ta tb tc td te tf tg th ti) (JB w0 gs gp) rgT 17 o := by
  intro o ho
  have hop : o.op = .build 33 #[(0, .tmp 38), (1, .tmp 42)] := atO (f := (·.op)) ho (by kernel_rfl)
  have hgd : o.guard = none := atO (f := (·.guard)) ho (by kernel_rfl)
  refine Step.val (n := 182) hsz (by kernel_rfl) fun vs w1 b hJ hD hS => ⟨by simp [Region.wanted, hgd], .agg #[.string ⟨(td : Txt).toArray⟩, .string ⟨(td : Txt).toArray⟩], w1, ?_, rfl, hJ, Below.refl _ _⟩
  have e38 := (hS.got 12 38 (atO (f := fun o => (depsN (opsOf Tryz.f3 6) 107 o).contains 12) ho (by kernel_rfl)) (by kernel_rfl) (by decide)).trans (hD 12 (depM (atO (f := fun o => (depsN (opsOf Tryz.f3 6) 107 o).contains 12) ho (by kernel_rfl))))
  have e42 := (hS.got 16 42 (atO (f := fun o => (depsN (opsOf Tryz.f3 6) 107 o).contains 16) ho (by kernel_rfl)) (by kernel_rfl) (by decide)).trans (hD 16 (depM (atO (f := fun o => (depsN (opsOf Tryz.f3 6) 107 o).contains 16) ho (by kernel_rfl))))
  simp [execOp, hop, go_sem, e38, e42]
set_option maxRecDepth 100000 in
theorem g6_18 (hsz : a0.tmps.size = 182) (h8 : a0.tmps[8]?.getD undef = .func (.func 14) #[] #[.pointer (some ⟨gp, 0, none⟩)]) : ∀ o, (opsOf Tryz.f3 6)[18]? = some o → StepN Tryz.prog (opsOf Tryz.f3 6) 107 a0 (rgR gs gp tp tq tr ta tb tc td te tf tg th ti) (JB w0 gs gp) rgT 18 o := by
  intro o ho
  have hop : o.op = .move (.tmp 8) := atO (f := (·.op)) ho (by kernel_rfl)
  have hgd : o.guard = none := atO (f := (·.guard)) ho (by kernel_rfl)
  refine Step.val (n := 182) hsz (by kernel_rfl) fun vs w1 b hJ hD hS => ⟨by simp [Region.wanted, hgd], .func (.func 14) #[] #[.pointer (some ⟨gp, 0, none⟩)], w1, ?_, rfl, hJ, Below.refl _ _⟩
  have e8 := (hS.rest 8 (atO (f := fun o => (depsN (opsOf Tryz.f3 6) 107 o).all fun j => dstOf (opsOf Tryz.f3 6) j != some 8) ho (by kernel_rfl))).trans h8
  simp [execOp, hop, go_sem, e8]
set_option maxRecDepth 100000 in
theorem g6_19 (hsz : a0.tmps.size = 182) (h8 : a0.tmps[8]?.getD undef = .func (.func 14) #[] #[.pointer (some ⟨gp, 0, none⟩)]) : ∀ o, (opsOf Tryz.f3 6)[19]? = some o → StepN Tryz.prog (opsOf Tryz.f3 6) 107 a0 (rgR gs gp tp tq tr ta tb tc td te tf tg th ti) (JB w0 gs gp) rgT 19 o := by
  intro o ho
  have hop : o.op = .move (.tmp 8) := atO (f := (·.op)) ho (by kernel_rfl)
  have hgd : o.guard = none := atO (f := (·.guard)) ho (by kernel_rfl)
  refine Step.val (n := 182) hsz (by kernel_rfl) fun vs w1 b hJ hD hS => ⟨by simp [Region.wanted, hgd], .func (.func 14) #[] #[.pointer (some ⟨gp, 0, none⟩)], w1, ?_, rfl, hJ, Below.refl _ _⟩
  have e8 := (hS.rest 8 (atO (f := fun o => (depsN (opsOf Tryz.f3 6) 107 o).all fun j => dstOf (opsOf Tryz.f3 6) j != some 8) ho (by kernel_rfl))).trans h8
  simp [execOp, hop, go_sem, e8]
set_option maxRecDepth 100000 in
theorem g6_20 (hsz : a0.tmps.size = 182) (h0 : a0.tmps[0]?.getD undef = .string ⟨(tp : Txt).toArray⟩) : ∀ o, (opsOf Tryz.f3 6)[20]? = some o → StepN Tryz.prog (opsOf Tryz.f3 6) 107 a0 (rgR gs gp tp tq tr ta tb tc td te tf tg th ti) (JB w0 gs gp) rgT 20 o := by
  intro o ho
  have hop : o.op = .move (.tmp 0) := atO (f := (·.op)) ho (by kernel_rfl)
  have hgd : o.guard = none := atO (f := (·.guard)) ho (by kernel_rfl)
  refine Step.val (n := 182) hsz (by kernel_rfl) fun vs w1 b hJ hD hS => ⟨by simp [Region.wanted, hgd], .string ⟨(tp : Txt).toArray⟩, w1, ?_, rfl, hJ, Below.refl _ _⟩
  have e0 := (hS.rest 0 (atO (f := fun o => (depsN (opsOf Tryz.f3 6) 107 o).all fun j => dstOf (opsOf Tryz.f3 6) j != some 0) ho (by kernel_rfl))).trans h0
  simp [execOp, hop, go_sem, e0]
set_option maxRecDepth 100000 in
theorem g6_21 (hsz : a0.tmps.size = 182) (h1 : a0.tmps[1]?.getD undef = .string ⟨(tq : Txt).toArray⟩) : ∀ o, (opsOf Tryz.f3 6)[21]? = some o → StepN Tryz.prog (opsOf Tryz.f3 6) 107 a0 (rgR gs gp tp tq tr ta tb tc td te tf tg th ti) (JB w0 gs gp) rgT 21 o := by
  intro o ho
  have hop : o.op = .move (.tmp 1) := atO (f := (·.op)) ho (by kernel_rfl)
  have hgd : o.guard = none := atO (f := (·.guard)) ho (by kernel_rfl)
  refine Step.val (n := 182) hsz (by kernel_rfl) fun vs w1 b hJ hD hS => ⟨by simp [Region.wanted, hgd], .string ⟨(tq : Txt).toArray⟩, w1, ?_, rfl, hJ, Below.refl _ _⟩
  have e1 := (hS.rest 1 (atO (f := fun o => (depsN (opsOf Tryz.f3 6) 107 o).all fun j => dstOf (opsOf Tryz.f3 6) j != some 1) ho (by kernel_rfl))).trans h1
  simp [execOp, hop, go_sem, e1]
set_option maxRecDepth 100000 in
theorem g6_22 (hsz : a0.tmps.size = 182) (HA1 : AddP tp tq ta) : ∀ o, (opsOf Tryz.f3 6)[22]? = some o → StepN Tryz.prog (opsOf Tryz.f3 6) 107 a0 (rgR gs gp tp tq tr ta tb tc td te tf tg th ti) (JB w0 gs gp) rgT 22 o := by
  intro o ho
  have hop : o.op = .call { callee := .value (.tmp 45), args := #[.tmp 46, .tmp 47], argTypes := #[22, 22] } := atO (f := (·.op)) ho (by kernel_rfl)
  have hgd : o.guard = none := atO (f := (·.guard)) ho (by kernel_rfl)
  refine Step.call (n := 182) hsz (by kernel_rfl) fun vs w1 b hJ hD hS => ⟨by simp [Region.wanted, hgd], 14, #[.string ⟨(tp : Txt).toArray⟩, .string ⟨(tq : Txt).toArray⟩, .pointer (some ⟨gp, 0, none⟩)], ?_, ?_⟩
  · have e45 := (hS.got 19 45 (atO (f := fun o => (depsN (opsOf Tryz.f3 6) 107 o).contains 19) ho (by kernel_rfl)) (by kernel_rfl) (by decide)).trans (hD 19 (depM (atO (f := fun o => (depsN (opsOf Tryz.f3 6) 107 o).contains 19) ho (by kernel_rfl))))
    have e46 := (hS.got 20 46 (atO (f := fun o => (depsN (opsOf Tryz.f3 6) 107 o).contains 20) ho (by kernel_rfl)) (by kernel_rfl) (by decide)).trans (hD 20 (depM (atO (f := fun o => (depsN (opsOf Tryz.f3 6) 107 o).contains 20) ho (by kernel_rfl))))
    have e47 := (hS.got 21 47 (atO (f := fun o => (depsN (opsOf Tryz.f3 6) 107 o).contains 21) ho (by kernel_rfl)) (by kernel_rfl) (by decide)).trans (hD 21 (depM (atO (f := fun o => (depsN (opsOf Tryz.f3 6) 107 o).contains 21) ho (by kernel_rfl))))
    simp [execOp, hop, go_sem, e45, e46, e47]
  · exact (HA1 gs gp w1 hJ.j).mono fun e w2 ⟨h1, h2⟩ => ⟨_, h1, rfl, JB.later hJ h2, h2⟩
set_option maxRecDepth 100000 in
theorem g6_23 (hsz : a0.tmps.size = 182) (h2 : a0.tmps[2]?.getD undef = .string ⟨(tr : Txt).toArray⟩) : ∀ o, (opsOf Tryz.f3 6)[23]? = some o → StepN Tryz.prog (opsOf Tryz.f3 6) 107 a0 (rgR gs gp tp tq tr ta tb tc td te tf tg th ti) (JB w0 gs gp) rgT 23 o := by
  intro o ho
  have hop : o.op = .move (.tmp 2) := atO (f := (·.op)) ho (by kernel_rfl)
  have hgd : o.guard = none := atO (f := (·.guard)) ho (by kernel_rfl)
  refine Step.val (n := 182) hsz (by kernel_rfl) fun vs w1 b hJ hD hS => ⟨by simp [Region.wanted, hgd], .string ⟨(tr : Txt).toArray⟩, w1, ?_, rfl, hJ, Below.refl _ _⟩
  have e2 := (hS.rest 2 (atO (f := fun o => (depsN (opsOf Tryz.f3 6) 107 o).all fun j => dstOf (opsOf Tryz.f3 6) j != some 2) ho (by kernel_rfl))).trans h2
  simp [execOp, hop, go_sem, e2]
set_option maxRecDepth 100000 in
theorem g6_24 (hsz : a0.tmps.size = 182) (HA3 : AddP ta tr tc) : ∀ o, (opsOf Tryz.f3 6)[24]? = some o → StepN Tryz.prog (opsOf Tryz.f3 6) 107 a0 (rgR gs gp tp tq tr ta tb tc td te tf tg th ti) (JB w0 gs gp) rgT 24 o := by
  intro o ho
  have hop : o.op = .call { callee := .value (.tmp 44), args := #[.tmp 48, .tmp 49], argTypes := #[22, 22] } := atO (f := (·.op)) ho (by kernel_rfl)
  have hgd : o.guard = none := atO (f := (·.guard)) ho (by kernel_rfl)
  refine Step.call (n := 182) hsz (by kernel_rfl) fun vs w1 b hJ hD hS => ⟨by simp [Region.wanted, hgd], 14, #[.string ⟨(ta : Txt).toArray⟩, .string ⟨(tr : Txt).toArray⟩, .pointer (some ⟨gp, 0, none⟩)], ?_, ?_⟩
  · have e44 := (hS.got 18 44 (atO (f := fun o => (depsN (opsOf Tryz.f3 6) 107 o).contains 18) ho (by kernel_rfl)) (by kernel_rfl) (by decide)).trans (hD 18 (depM (atO (f := fun o => (depsN (opsOf Tryz.f3 6) 107 o).contains 18) ho (by kernel_rfl))))
    have e48 := (hS.got 22 48 (atO (f := fun o => (depsN (opsOf Tryz.f3 6) 107 o).contains 22) ho (by kernel_rfl)) (by kernel_rfl) (by decide)).trans (hD 22 (depM (atO (f := fun o => (depsN (opsOf Tryz.f3 6) 107 o).contains 22) ho (by kernel_rfl))))
    have e49 := (hS.got 23 49 (atO (f := fun o => (depsN (opsOf Tryz.f3 6) 107 o).contains 23) ho (by kernel_rfl)) (by kernel_rfl) (by decide)).trans (hD 23 (depM (atO (f := fun o => (depsN (opsOf Tryz.f3 6) 107 o).contains 23) ho (by kernel_rfl))))
    simp [execOp, hop, go_sem, e44, e48, e49]
  · exact (HA3 gs gp w1 hJ.j).mono fun e w2 ⟨h1, h2⟩ => ⟨_, h1, rfl, JB.later hJ h2, h2⟩
set_option maxRecDepth 100000 in
theorem g6_25 (hsz : a0.tmps.size = 182) (h8 : a0.tmps[8]?.getD undef = .func (.func 14) #[] #[.pointer (some ⟨gp, 0, none⟩)]) : ∀ o, (opsOf Tryz.f3 6)[25]? = some o → StepN Tryz.prog (opsOf Tryz.f3 6) 107 a0 (rgR gs gp tp tq tr ta tb tc td te tf tg th ti) (JB w0 gs gp) rgT 25 o := by
  intro o ho
  have hop : o.op = .move (.tmp 8) := atO (f := (·.op)) ho (by kernel_rfl)
  have hgd : o.guard = none := atO (f := (·.guard)) ho (by kernel_rfl)
  refine Step.val (n := 182) hsz (by kernel_rfl) fun vs w1 b hJ hD hS => ⟨by simp [Region.wanted, hgd], .func (.func 14) #[] #[.pointer (some ⟨gp, 0, none⟩)], w1, ?_, rfl, hJ, Below.refl _ _⟩
  have e8 := (hS.rest 8 (atO (f := fun o => (depsN (opsOf Tryz.f3 6) 107 o).all fun j => dstOf (opsOf Tryz.f3 6) j != some 8) ho (by kernel_rfl))).trans h8
  simp [execOp, hop, go_sem, e8]
set_option maxRecDepth 100000 in
theorem g6_26 (hsz : a0.tmps.size = 182) (h0 : a0.tmps[0]?.getD undef = .string ⟨(tp : Txt).toArray⟩) : ∀ o, (opsOf Tryz.f3 6)[26]? = some o → StepN Tryz.prog (opsOf Tryz.f3 6) 107 a0 (rgR gs gp tp tq tr ta tb tc td te tf tg th ti) (JB w0 gs gp) rgT 26 o := by
  intro o ho
  have hop : o.op = .move (.tmp 0) := atO (f := (·.op)) ho (by kernel_rfl)
  have hgd : o.guard = none := atO (f := (·.guard)) ho (by kernel_rfl)
  refine Step.val (n := 182) hsz (by kernel_rfl) fun vs w1 b hJ hD hS => ⟨by simp [Region.wanted, hgd], .string ⟨(tp : Txt).toArray⟩, w1, ?_, rfl, hJ, Below.refl _ _⟩
  have e0 := (hS.rest 0 (atO (f := fun o => (depsN (opsOf Tryz.f3 6) 107 o).all fun j => dstOf (opsOf Tryz.f3 6) j != some 0) ho (by kernel_rfl))).trans h0
  simp [execOp, hop, go_sem, e0]
set_option maxRecDepth 100000 in
theorem g6_27 (hsz : a0.tmps.size = 182) (h8 : a0.tmps[8]?.getD undef = .func (.func 14) #[] #[.pointer (some ⟨gp, 0, none⟩)]) : ∀ o, (opsOf Tryz.f3 6)[27]? = some o → StepN Tryz.prog (opsOf Tryz.f3 6) 107 a0 (rgR gs gp tp tq tr ta tb tc td te tf tg th ti) (JB w0 gs gp) rgT 27 o := by
  intro o ho
  have hop : o.op = .move (.tmp 8) := atO (f := (·.op)) ho (by kernel_rfl)
  have hgd : o.guard = none := atO (f := (·.guard)) ho (by kernel_rfl)
  refine Step.val (n := 182) hsz (by kernel_rfl) fun vs w1 b hJ hD hS => ⟨by simp [Region.wanted, hgd], .func (.func 14) #[] #[.pointer (some ⟨gp, 0, none⟩)], w1, ?_, rfl, hJ, Below.refl _ _⟩
  have e8 := (hS.rest 8 (atO (f := fun o => (depsN (opsOf Tryz.f3 6) 107 o).all fun j => dstOf (opsOf Tryz.f3 6) j != some 8) ho (by kernel_rfl))).trans h8
  simp [execOp, hop, go_sem, e8]
set_option maxRecDepth 100000 in
theorem g6_28 (hsz : a0.tmps.size = 182) (h1 : a0.tmps[1]?.getD undef = .string ⟨(tq : Txt).toArray⟩) : ∀ o, (opsOf Tryz.f3 6)[28]? = some o → StepN Tryz.prog (opsOf Tryz.f3 6) 107 a0 (rgR gs gp tp tq tr ta tb tc td te tf tg th ti) (JB w0 gs gp) rgT 28 o := by
  intro o ho
  have hop : o.op = .move (.tmp 1) := atO (f := (·.op)) ho (by kernel_rfl)
  have hgd : o.guard = none := atO (f := (·.guard)) ho (by kernel_rfl)
  refine Step.val (n := 182) hsz (by kernel_rfl) fun vs w1 b hJ hD hS => ⟨by simp [Region.wanted, hgd], .string ⟨(tq : Txt).toArray⟩, w1, ?_, rfl, hJ, Below.refl _ _⟩
  have e1 := (hS.rest 1 (atO (f := fun o => (depsN (opsOf Tryz.f3 6) 107 o).all fun j => dstOf (opsOf Tryz.f3 6) j != some 1) ho (by kernel_rfl))).trans h1
  simp [execOp, hop, go_sem, e1]
set_option maxRecDepth 100000 in
theorem g6_29 (hsz : a0.tmps.size = 182) (h2 : a0.tmps[2]?.getD undef = .string ⟨(tr : Txt).toArray⟩) : ∀ o, (opsOf Tryz.f3 6)[29]? = some o → StepN Tryz.prog (opsOf Tryz.f3 6) 107 a0 (rgR gs gp tp tq tr ta tb tc td te tf tg th ti) (JB w0 gs gp) rgT 29 o := by
  intro o ho
  have hop : o.op = .move (.tmp 2) := atO (f := (·.op)) ho (by kernel_rfl)
  have hgd : o.guard = none := atO (f := (·.guard)) ho (by kernel_rfl)
  refine Step.val (n := 182) hsz (by kernel_rfl) fun vs w1 b hJ hD hS => ⟨by simp [Region.wanted, hgd], .string ⟨(tr : Txt).toArray⟩, w1, ?_, rfl, hJ, Below.refl _ _⟩
  have e2 := (hS.rest 2 (atO (f := fun o => (depsN (opsOf Tryz.f3 6) 107 o).all fun j => dstOf (opsOf Tryz.f3 6) j != some 2) ho (by kernel_rfl))).trans h2
  simp [execOp, hop, go_sem, e2]
set_option maxRecDepth 100000 in
theorem g6_30 (hsz : a0.tmps.size = 182) (HA4 : AddP tq tr tb) : ∀ o, (opsOf Tryz.f3 6)[30]? = some o → StepN Tryz.prog (opsOf Tryz.f3 6) 107 a0 (rgR gs gp tp tq tr ta tb tc td te tf tg th ti) (JB w0 gs gp) rgT 30 o := by
  intro o ho
  have hop : o.op = .call { callee := .value (.tmp 53), args := #[.tmp 54, .tmp 55], argTypes := #[22, 22] } := atO (f := (·.op)) ho (by kernel_rfl)
  have hgd : o.guard = none := atO (f := (·.guard)) ho (by kernel_rfl)
  refine Step.call (n := 182) hsz (by kernel_rfl) fun vs w1 b hJ hD hS => ⟨by simp [Region.wanted, hgd], 14, #[.string ⟨(tq : Txt).toArray⟩, .string ⟨(tr : Txt).toArray⟩, .pointer (some ⟨gp, 0, none⟩)], ?_, ?_⟩
  · have e53 := (hS.got 27 53 (atO (f := fun o => (depsN (opsOf Tryz.f3 6) 107 o).contains 27) ho (by kernel_rfl)) (by kernel_rfl) (by decide)).trans (hD 27 (depM (atO (f := fun o => (depsN (opsOf Tryz.f3 6) 107 o).contains 27) ho (by kernel_rfl))))
    have e54 := (hS.got 28 54 (atO (f := fun o => (depsN (opsOf Tryz.f3 6) 107 o).contains 28) ho (by kernel_rfl)) (by kernel_rfl) (by decide)).trans (hD 28 (depM (atO (f := fun o => (depsN (opsOf Tryz.f3 6) 107 o).contains 28) ho (by kernel_rfl))))
    have e55 := (hS.got 29 55 (atO (f := fun o => (depsN (opsOf Tryz.f3 6) 107 o).contains 29) ho (by kernel_rfl)) (by kernel_rfl) (by decide)).trans (hD 29 (depM (atO (f := fun o => (depsN (opsOf Tryz.f3 6) 107 o).contains 29) ho (by kernel_rfl))))
    simp [execOp, hop, go_sem, e53, e54, e55]
  · exact (HA4 gs gp w1 hJ.j).mono fun e w2 ⟨h1, h2⟩ => ⟨_, h1, rfl, JB.later hJ h2, h2⟩
set_option maxRecDepth 100000 in
theorem g6_31 (hsz : a0.tmps.size = 182) (HA5 : AddP tp tb tc) : ∀ o, (opsOf Tryz.f3 6)[31]? = some o → StepN Tryz.prog (opsOf Tryz.f3 6) 107 a0 (rgR gs gp tp tq tr ta tb tc td te tf tg th ti) (JB w0 gs gp) rgT 31 o := by
  intro o ho
  have hop : o.op = .call { callee := .value (.tmp 51), args := #[.tmp 52, .tmp 56], argTypes := #[22, 22] } := atO (f := (·.op)) ho (by kernel_rfl)
  have hgd : o.guard = none := atO (f := (·.guard)) ho (by kernel_rfl)
  refine Step.call (n := 182) hsz (by kernel_rfl) fun vs w1 b hJ hD hS => ⟨by simp [Region.wanted, hgd], 14, #[.string ⟨(tp : Txt).toArray⟩, .string ⟨(tb : Txt).toArray⟩, .pointer (some ⟨gp, 0, none⟩)], ?_, ?_⟩
  · have e51 := (hS.got 25 51 (atO (f := fun o => (depsN (opsOf Tryz.f3 6) 107 o).contains 25) ho (by kernel_rfl)) (by kernel_rfl) (by decide)).trans (hD 25 (depM (atO (f := fun o => (depsN (opsOf Tryz.f3 6) 107 o).contains 25) ho (by kernel_rfl))))
    have e52 := (hS.got 26 52 (atO (f := fun o => (depsN (opsOf Tryz.f3 6) 107 o).contains 26) ho (by kernel_rfl)) (by kernel_rfl) (by decide)).trans (hD 26 (depM (atO (f := fun o => (depsN (opsOf Tryz.f3 6) 107 o).contains 26) ho (by kernel_rfl))))
    have e56 := (hS.got 30 56 (atO (f := fun o => (depsN (opsOf Tryz.f3 6) 107 o).contains 30) ho (by kernel_rfl)) (by kernel_rfl) (by decide)).trans (hD 30 (depM (atO (f := fun o => (depsN (opsOf Tryz.f3 6) 107 o).contains 30) ho (by kernel_rfl))))
    simp [execOp, hop, go_sem, e51, e52, e56]
  · exact (HA5 gs gp w1 hJ.j).mono fun e w2 ⟨h1, h2⟩ => ⟨_, h1, rfl, JB.later hJ h2, h2⟩
set_option maxRecDepth 100000 in
theorem g6_32 (hsz : a0.tmps.size = 182) : ∀ o, (opsOf Tryz.f3 6)[32]? = some o → StepN Tryz.prog (opsOf Tryz.f3 6) 107 a0 (rgR gs gp tp tq tr ta tb tc td te tf tg th ti) (JB w0 gs gp) rgT 32 o := by
  intro o ho
  have hop : o.op = .build 33 #[(0, .tmp 50), (1, .tmp 57)] := atO (f := (·.op)) ho (by kernel_rfl)
  have hgd : o.guard = none := atO (f := (·.guard)) ho (by kernel_rfl)
  refine Step.val (n := 182) hsz (by kernel_rfl) fun vs w1 b hJ hD hS => ⟨by simp [Region.wanted, hgd], .agg #[.string ⟨(tc : Txt).toArray⟩, .string ⟨(tc : Txt).toArray⟩], w1, ?_, rfl, hJ, Below.refl _ _⟩
  have e50 := (hS.got 24 50 (atO (f := fun o => (depsN (opsOf Tryz.f3 6) 107 o).contains 24) ho (by kernel_rfl)) (by kernel_rfl) (by decide)).trans (hD 24 (depM (atO (f := fun o => (depsN (opsOf Tryz.f3 6) 107 o).contains 24) ho (by kernel_rfl))))
  have e57 := (hS.got 31 57 (atO (f := fun o => (depsN (opsOf Tryz.f3 6) 107 o).contains 31) ho (by kernel_rfl)) (by kernel_rfl) (by decide)).trans (hD 31 (depM (atO (f := fun o => (depsN (opsOf Tryz.f3 6) 107 o).contains 31) ho (by kernel_rfl))))
  simp [execOp, hop, go_sem, e50, e57]
set_option maxRecDepth 100000 in
theorem g6_33 (hsz : a0.tmps.size = 182) (h9 : a0.tmps[9]?.getD undef = .func (.func 17) #[] #[.pointer (some ⟨gp, 0, none⟩)]) : ∀ o, (opsOf Tryz.f3 6)[33]? = some o → StepN Tryz.prog (opsOf Tryz.f3 6) 107 a0 (rgR gs gp tp tq tr ta tb tc td te tf tg th ti) (JB w0 gs gp) rgT 33 o := by
  intro o ho
  have hop : o.op = .move (.tmp 9) := atO (f := (·.op)) ho (by kernel_rfl)
  have hgd : o.guard = none := atO (f := (·.guard)) ho (by kernel_rfl)
  refine Step.val (n := 182) hsz (by kernel_rfl) fun vs w1 b hJ hD hS => ⟨by simp [Region.wanted, hgd], .func (.func 17) #[] #[.pointer (some ⟨gp, 0, none⟩)], w1, ?_, rfl, hJ, Below.refl _ _⟩
  have e9 := (hS.rest 9 (atO (f := fun o => (depsN (opsOf Tryz.f3 6) 107 o).all fun j => dstOf (opsOf Tryz.f3 6) j != some 9) ho (by kernel_rfl))).trans h9
  simp [execOp, hop, go_sem, e9]
set_option maxRecDepth 100000 in
theorem g6_34 (hsz : a0.tmps.size = 182) (h9 : a0.tmps[9]?.getD undef = .func (.func 17) #[] #[.pointer (some ⟨gp, 0, none⟩)]) : ∀ o, (opsOf Tryz.f3 6)[34]? = some o → StepN Tryz.prog (opsOf Tryz.f3 6) 107 a0 (rgR gs gp tp tq tr ta tb tc td te tf tg th ti) (JB w0 gs gp) rgT 34 o := by
  intro o ho
  have hop : o.op = .move (.tmp 9) := atO (f := (·.op)) ho (by kernel_rfl)
  have hgd : o.guard = none := atO (f := (·.guard)) ho (by kernel_rfl)
  refine Step.val (n := 182) hsz (by kernel_rfl) fun vs w1 b hJ hD hS => ⟨by simp [Region.wanted, hgd], .func (.func 17) #[] #[.pointer (some ⟨gp, 0, none⟩)], w1, ?_, rfl, hJ, Below.refl _ _⟩
  have e9 := (hS.rest 9 (atO (f := fun o => (depsN (opsOf Tryz.f3 6) 107 o).all fun j => dstOf (opsOf Tryz.f3 6) j != some 9) ho (by kernel_rfl))).trans h9
  simp [execOp, hop, go_sem, e9]
set_option maxRecDepth 100000 in
theorem g6_35 (hsz : a0.tmps.size = 182) (h0 : a0.tmps[0]?.getD undef = .string ⟨(tp : Txt).toArray⟩) : ∀ o, (opsOf Tryz.f3 6)[35]? = some o → StepN Tryz.prog (opsOf Tryz.f3 6) 107 a0 (rgR gs gp tp tq tr ta tb tc td te tf tg th ti) (JB w0 gs gp) rgT 35 o := by
  intro o ho
  have hop : o.op = .move (.tmp 0) := atO (f := (·.op)) ho (by kernel_rfl)
  have hgd : o.guard = none := atO (f := (·.guard)) ho (by kernel_rfl)
  refine Step.val (n := 182) hsz (by kernel_rfl) fun vs w1 b hJ hD hS => ⟨by simp [Region.wanted, hgd], .string ⟨(tp : Txt).toArray⟩, w1, ?_, rfl, hJ, Below.refl _ _⟩
  have e0 := (hS.rest 0 (atO (f := fun o => (depsN (opsOf Tryz.f3 6) 107 o).all fun j => dstOf (opsOf Tryz.f3 6) j != some 0) ho (by kernel_rfl))).trans h0
  simp [execOp, hop, go_sem, e0]
set_option maxRecDepth 100000 in
theorem g6_36 (hsz : a0.tmps.size = 182) (h1 : a0.tmps[1]?.getD undef = .string ⟨(tq : Txt).toArray⟩) : ∀ o, (opsOf Tryz.f3 6)[36]? = some o → StepN Tryz.prog (opsOf Tryz.f3 6) 107 a0 (rgR gs gp tp tq tr ta tb tc td te tf tg th ti) (JB w0 gs gp) rgT 36 o := by
  intro o ho
  have hop : o.op = .move (.tmp 1) := atO (f := (·.op)) ho (by kernel_rfl)
  have hgd : o.guard = none := atO (f := (·.guard)) ho (by kernel_rfl)
  refine Step.val (n := 182) hsz (by kernel_rfl) fun vs w1 b hJ hD hS => ⟨by simp [Region.wanted, hgd], .string ⟨(tq : Txt).toArray⟩, w1, ?_, rfl, hJ, Below.refl _ _⟩
  have e1 := (hS.rest 1 (atO (f := fun o => (depsN (opsOf Tryz.f3 6) 107 o).all fun j => dstOf (opsOf Tryz.f3 6) j != some 1) ho (by kernel_rfl))).trans h1
  simp [execOp, hop, go_sem, e1]
set_option maxRecDepth 100000 in
theorem g6_37 (hsz : a0.tmps.size = 182) (HM1 : MulP tp tq td) : ∀ o, (opsOf Tryz.f3 6)[37]? = some o → StepN Tryz.prog (opsOf Tryz.f3 6) 107 a0 (rgR gs gp tp tq tr ta tb tc td te tf tg th ti) (JB w0 gs gp) rgT 37 o := by
  intro o ho
  have hop : o.op = .call { callee := .value (.tmp 60), args := #[.tmp 61, .tmp 62], argTypes := #[22, 22] } := atO (f := (·.op)) ho (by kernel_rfl)
  have hgd : o.guard = none := atO (f := (·.guard)) ho (by kernel_rfl)
  refine Step.call (n := 182) hsz (by kernel_rfl) fun vs w1 b hJ hD hS => ⟨by simp [Region.wanted, hgd], 17, #[.string ⟨(tp : Txt).toArray⟩, .string ⟨(tq : Txt).toArray⟩, .pointer (some ⟨gp, 0, none⟩)], ?_, ?_⟩
  · have e60 := (hS.got 34 60 (atO (f := fun o => (depsN (opsOf Tryz.f3 6) 107 o).contains 34) ho (by kernel_rfl)) (by kernel_rfl) (by decide)).trans (hD 34 (depM (atO (f := fun o => (depsN (opsOf Tryz.f3 6) 107 o).contains 34) ho (by kernel_rfl))))
    have e61 := (hS.got 35 61 (atO (f := fun o => (depsN (opsOf Tryz.f3 6) 107 o).contains 35) ho (by kernel_rfl)) (by kernel_rfl) (by decide)).trans (hD 35 (depM (atO (f := fun o => (depsN (opsOf Tryz.f3 6) 107 o).contains 35) ho (by kernel_rfl))))
    have e62 := (hS.got 36 62 (atO (f := fun o => (depsN (opsOf Tryz.f3 6) 107 o).contains 36) ho (by kernel_rfl)) (by kernel_rfl) (by decide)).trans (hD 36 (depM (atO (f := fun o => (depsN (opsOf Tryz.f3 6) 107 o).contains 36) ho (by kernel_rfl))))
    simp [execOp, hop, go_sem, e60, e61, e62]
  · exact (HM1 gs gp w1 hJ.j).mono fun e w2 ⟨h1, h2⟩ => ⟨_, h1, rfl, JB.later hJ h2, h2⟩
set_option maxRecDepth 100000 in
theorem g6_38 (hsz : a0.tmps.size = 182) (h2 : a0.tmps[2]?.getD undef = .string ⟨(tr : Txt).toArray⟩) : ∀ o, (opsOf Tryz.f3 6)[38]? = some o → StepN Tryz.prog (opsOf Tryz.f3 6) 107 a0 (rgR gs gp tp tq tr ta tb tc td te tf tg th ti) (JB w0 gs gp) rgT 38 o := by
  intro o ho
  have hop : o.op = .move (.tmp 2) := atO (f := (·.op)) ho (by kernel_rfl)
  have hgd : o.guard = none := atO (f := (·.guard)) ho (by kernel_rfl)
  refine Step.val (n := 182) hsz (by kernel_rfl) fun vs w1 b hJ hD hS => ⟨by simp [Region.wanted, hgd], .string ⟨(tr : Txt).toArray⟩, w1, ?_, rfl, hJ, Below.refl _ _⟩
  have e2 := (hS.rest 2 (atO (f := fun o => (depsN (opsOf Tryz.f3 6) 107 o).all fun j => dstOf (opsOf Tryz.f3 6) j != some 2) ho (by kernel_rfl))).trans h2
  simp [execOp, hop, go_sem, e2]
set_option maxRecDepth 100000 in
theorem g6_39 (hsz : a0.tmps.size = 182) (HM3 : MulP td tr tf) : ∀ o, (opsOf Tryz.f3 6)[39]? = some o → StepN Tryz.prog (opsOf Tryz.f3 6) 107 a0 (rgR gs gp tp tq tr ta tb tc td te tf tg th ti) (JB w0 gs gp) rgT 39 o := by
  intro o ho
  have hop : o.op = .call { callee := .value (.tmp 59), args := #[.tmp 63, .tmp 64], argTypes := #[22, 22] } := atO (f := (·.op)) ho (by kernel_rfl)
  have hgd : o.guard = none := atO (f := (·.guard)) ho (by kernel_rfl)
  refine Step.call (n := 182) hsz (by kernel_rfl) fun vs w1 b hJ hD hS => ⟨by simp [Region.wanted, hgd], 17, #[.string ⟨(td : Txt).toArray⟩, .string ⟨(tr : Txt).toArray⟩, .pointer (some ⟨gp, 0, none⟩)], ?_, ?_⟩
  · have e59 := (hS.got 33 59 (atO (f := fun o => (depsN (opsOf Tryz.f3 6) 107 o).contains 33) ho (by kernel_rfl)) (by kernel_rfl) (by decide)).trans (hD 33 (depM (atO (f := fun o => (depsN (opsOf Tryz.f3 6) 107 o).contains 33) ho (by kernel_rfl))))
    have e63 := (hS.got 37 63 (atO (f := fun o => (depsN (opsOf Tryz.f3 6) 107 o).contains 37) ho (by kernel_rfl)) (by kernel_rfl) (by decide)).trans (hD 37 (depM (atO (f := fun o => (depsN (opsOf Tryz.f3 6) 107 o).contains 37) ho (by kernel_rfl))))
    have e64 := (hS.got 38 64 (atO (f := fun o => (depsN (opsOf Tryz.f3 6) 107 o).contains 38) ho (by kernel_rfl)) (by kernel_rfl) (by decide)).trans (hD 38 (depM (atO (f := fun o => (depsN (opsOf Tryz.f3 6) 107 o).contains 38) ho (by kernel_rfl))))
    simp [execOp, hop, go_sem, e59, e63, e64]
  · exact (HM3 gs gp w1 hJ.j).mono fun e w2 ⟨h1, h2⟩ => ⟨_, h1, rfl, JB.later hJ h2, h2⟩
set_option maxRecDepth 100000 in
theorem g6_40 (hsz : a0.tmps.size = 182) (h9 : a0.tmps[9]?.getD undef = .func (.func 17) #[] #[.pointer (some ⟨gp, 0, none⟩)]) : ∀ o, (opsOf Tryz.f3 6)[40]? = some o → StepN Tryz.prog (opsOf Tryz.f3 6) 107 a0 (rgR gs gp tp tq tr ta tb tc td te tf tg th ti) (JB w0 gs gp) rgT 40 o := by
  intro o ho
  have hop : o.op = .move (.tmp 9) := atO (f := (·.op)) ho (by kernel_rfl)
  have hgd : o.guard = none := atO (f := (·.guard)) ho (by kernel_rfl)
  refine Step.val (n := 182) hsz (by kernel_rfl) fun vs w1 b hJ hD hS => ⟨by simp [Region.wanted, hgd], .func (.func 17) #[] #[.pointer (some ⟨gp, 0, none⟩)], w1, ?_, rfl, hJ, Below.refl _ _⟩
  have e9 := (hS.rest 9 (atO (f := fun o => (depsN (opsOf Tryz.f3 6) 107 o).all fun j => dstOf (opsOf Tryz.f3 6) j != some 9) ho (by kernel_rfl))).trans h9
  simp [execOp, hop, go_sem, e9]
set_option maxRecDepth 100000 in
theorem g6_41 (hsz : a0.tmps.size = 182) (h0 : a0.tmps[0]?.getD undef = .string ⟨(tp : Txt).toArray⟩) : ∀ o, (opsOf Tryz.f3 6)[41]? = some o → StepN Tryz.prog (opsOf Tryz.f3 6) 107 a0 (rgR gs gp tp tq tr ta tb tc td te tf tg th ti) (JB w0 gs gp) rgT 41 o := by
  intro o ho
  have hop : o.op = .move (.tmp 0) := atO (f := (·.op)) ho (by kernel_rfl)
  have hgd : o.guard = none := atO (f := (·.guard)) ho (by kernel_rfl)
  refine Step.val (n := 182) hsz (by kernel_rfl) fun vs w1 b hJ hD hS => ⟨by simp [Region.wanted, hgd], .string ⟨(tp : Txt).toArray⟩, w1, ?_, rfl, hJ, Below.refl _ _⟩
  have e0 := (hS.rest 0 (atO (f := fun o => (depsN (opsOf Tryz.f3 6) 107 o).all fun j => dstOf (opsOf Tryz.f3 6) j != some 0) ho (by kernel_rfl))).trans h0
  simp [execOp, hop, go_sem, e0]
set_option maxRecDepth 100000 in
theorem g6_42 (hsz : a0.tmps.size = 182) (h9 : a0.tmps[9]?.getD undef = .func (.func 17) #[] #[.pointer (some ⟨gp, 0, none⟩)]) : ∀ o, (opsOf Tryz.f3 6)[42]? = some o → StepN Tryz.prog (opsOf Tryz.f3 6) 107 a0 (rgR gs gp tp tq tr ta tb tc td te tf tg th ti) (JB w0 gs gp) rgT 42 o := by
  intro o ho
  have hop : o.op = .move (.tmp 9) := atO (f := (·.op)) ho (by kernel_rfl)
  have hgd : o.guard = none := atO (f := (·.guard)) ho (by kernel_rfl)
  refine Step.val (n := 182) hsz (by kernel_rfl) fun vs w1 b hJ hD hS => ⟨by simp [Region.wanted, hgd], .func (.func 17) #[] #[.pointer (some ⟨gp, 0, none⟩)], w1, ?_, rfl, hJ, Below.refl _ _⟩
  have e9 := (hS.rest 9 (atO (f := fun o => (depsN (opsOf Tryz.f3 6) 107 o).all fun j => dstOf (opsOf Tryz.f3 6) j != some 9) ho (by kernel_rfl))).trans h9
  simp [execOp, hop, go_sem, e9]
set_option maxRecDepth 100000 in
theorem g6_43 (hsz : a0.tmps.size = 182) (h1 : a0.tmps[1]?.getD undef = .string ⟨(tq : Txt).toArray⟩) : ∀ o, (opsOf Tryz.f3 6)[43]? = some o → StepN Tryz.prog (opsOf Tryz.f3 6) 107 a0 (rgR gs gp tp tq tr ta tb tc td te tf tg th ti) (JB w0 gs gp) rgT 43 o := by
  intro o ho
  have hop : o.op = .move (.tmp 1) := atO (f := (·.op)) ho (by kernel_rfl)
  have hgd : o.guard = none := atO (f := (·.guard)) ho (by kernel_rfl)
  refine Step.val (n := 182) hsz (by kernel_rfl) fun vs w1 b hJ hD hS => ⟨by simp [Region.wanted, hgd], .string ⟨(tq : Txt).toArray⟩, w1, ?_, rfl, hJ, Below.refl _ _⟩
  have e1 := (hS.rest 1 (atO (f := fun o => (depsN (opsOf Tryz.f3 6) 107 o).all fun j => dstOf (opsOf Tryz.f3 6) j != some 1) ho (by kernel_rfl))).trans h1
  simp [execOp, hop, go_sem, e1]
set_option maxRecDepth 100000 in
theorem g6_44 (hsz : a0.tmps.size = 182) (h2 : a0.tmps[2]?.getD undef = .string ⟨(tr : Txt).toArray⟩) : ∀ o, (opsOf Tryz.f3 6)[44]? = some o → StepN Tryz.prog (opsOf Tryz.f3 6) 107 a0 (rgR gs gp tp tq tr ta tb tc td te tf tg th ti) (JB w0 gs gp) rgT 44 o := by
  intro o ho
  have hop : o.op = .move (.tmp 2) := atO (f := (·.op)) ho (by kernel_rfl)
  have hgd : o.guard = none := atO (f := (·.guard)) ho (by kernel_rfl)
  refine Step.val (n := 182) hsz (by kernel_rfl) fun vs w1 b hJ hD hS => ⟨by simp [Region.wanted, hgd], .string ⟨(tr : Txt).toArray⟩, w1, ?_, rfl, hJ, Below.refl _ _⟩
  have e2 := (hS.rest 2 (atO (f := fun o => (depsN (opsOf Tryz.f3 6) 107 o).all fun j => dstOf (opsOf Tryz.f3 6) j != some 2) ho (by kernel_rfl))).trans h2
  simp [execOp, hop, go_sem, e2]
set_option maxRecDepth 100000 in
theorem g6_45 (hsz : a0.tmps.size = 182) (HM4 : MulP tq tr te) : ∀ o, (opsOf Tryz.f3 6)[45]? = some o → StepN Tryz.prog (opsOf Tryz.f3 6) 107 a0 (rgR gs gp tp tq tr ta tb tc td te tf tg th ti) (JB w0 gs gp) rgT 45 o := by
  intro o ho
  have hop : o.op = .call { callee := .value (.tmp 68), args := #[.tmp 69, .tmp 70], argTypes := #[22, 22] } := atO (f := (·.op)) ho (by kernel_rfl)
  have hgd : o.guard = none := atO (f := (·.guard)) ho (by kernel_rfl)
  refine Step.call (n := 182) hsz (by kernel_rfl) fun vs w1 b hJ hD hS => ⟨by simp [Region.wanted, hgd], 17, #[.string ⟨(tq : Txt).toArray⟩, .string ⟨(tr : Txt).toArray⟩, .pointer (some ⟨gp, 0, none⟩)], ?_, ?_⟩
  · have e68 := (hS.got 42 68 (atO (f := fun o => (depsN (opsOf Tryz.f3 6) 107 o).contains 42) ho (by kernel_rfl)) (by kernel_rfl) (by decide)).trans (hD 42 (depM (atO (f := fun o => (depsN (opsOf Tryz.f3 6) 107 o).contains 42) ho (by kernel_rfl))))
    have e69 := (hS.got 43 69 (atO (f := fun o => (depsN (opsOf Tryz.f3 6) 107 o).contains 43) ho (by kernel_rfl)) (by kernel_rfl) (by decide)).trans (hD 43 (depM (atO (f := fun o => (depsN (opsOf Tryz.f3 6) 107 o).contains 43) ho (by kernel_rfl))))
    have e70 := (hS.got 44 70 (atO (f := fun o => (depsN (opsOf Tryz.f3 6) 107 o).contains 44) ho (by kernel_rfl)) (by kernel_rfl) (by decide)).trans (hD 44 (depM (atO (f := fun o => (depsN (opsOf Tryz.f3 6) 107 o).contains 44) ho (by kernel_rfl))))
    simp [execOp, hop, go_sem, e68, e69, e70]
  · exact (HM4 gs gp w1 hJ.j).mono fun e w2 ⟨h1, h2⟩ => ⟨_, h1, rfl, JB.later hJ h2, h2⟩
set_option maxRecDepth 100000 in
theorem g6_46 (hsz : a0.tmps.size = 182) (HM5 : MulP tp te tf) : ∀ o, (opsOf Tryz.f3 6)[46]? = some o → StepN Tryz.prog (opsOf Tryz.f3 6) 107 a0 (rgR gs gp tp tq tr ta tb tc td te tf tg th ti) (JB w0 gs gp) rgT 46 o := by
  intro o ho
  have hop : o.op = .call { callee := .value (.tmp 66), args := #[.tmp 67, .tmp 71], argTypes := #[22, 22] } := atO (f := (·.op)) ho (by kernel_rfl)
  have hgd : o.guard = none := atO (f := (·.guard)) ho (by kernel_rfl)
  refine Step.call (n := 182) hsz (by kernel_rfl) fun vs w1 b hJ hD hS => ⟨by simp [Region.wanted, hgd], 17, #[.string ⟨(tp : Txt).toArray⟩, .string ⟨(te : Txt).toArray⟩, .pointer (some ⟨gp, 0, none⟩)], ?_, ?_⟩
  · have e66 := (hS.got 40 66 (atO (f := fun o => (depsN (opsOf Tryz.f3 6) 107 o).contains 40) ho (by kernel_rfl)) (by kernel_rfl) (by decide)).trans (hD 40 (depM (atO (f := fun o => (depsN (opsOf Tryz.f3 6) 107 o).contains 40) ho (by kernel_rfl))))
    have e67 := (hS.got 41 67 (atO (f := fun o => (depsN (opsOf Tryz.f3 6) 107 o).contains 41) ho (by kernel_rfl)) (by kernel_rfl) (by decide)).trans (hD 41 (depM (atO (f := fun o => (depsN (opsOf Tryz.f3 6) 107 o).contains 41) ho (by kernel_rfl))))
    have e71 := (hS.got 45 71 (atO (f := fun o => (depsN (opsOf Tryz.f3 6) 107 o).contains 45) ho (by kernel_rfl)) (by kernel_rfl) (by decide)).trans (hD 45 (depM (atO (f := fun o => (depsN (opsOf Tryz.f3 6) 107 o).contains 45) ho (by kernel_rfl))))
    simp [execOp, hop, go_sem, e66, e67, e71]
  · exact (HM5 gs gp w1 hJ.j).mono fun e w2 ⟨h1, h2⟩ => ⟨_, h1, rfl, JB.later hJ h2, h2⟩
set_option maxRecDepth 100000 in
theorem g6_47 (hsz : a0.tmps.size = 182) : ∀ o, (opsOf Tryz.f3 6)[47]? = some o → StepN Tryz.prog (opsOf Tryz.f3 6) 107 a0 (rgR gs gp tp tq tr ta tb tc td te tf tg th ti) (JB w0 gs gp) rgT 47 o := by
  intro o ho
  have hop : o.op = .build 33 #[(0, .tmp 65), (1, .tmp 72)] := atO (f := (·.op)) ho (by kernel_rfl)
  have hgd : o.guard = none := atO (f := (·.guard)) ho (by kernel_rfl)
  refine Step.val (n := 182) hsz (by kernel_rfl) fun vs w1 b hJ hD hS => ⟨by simp [Region.wanted, hgd], .agg #[.string ⟨(tf : Txt).toArray⟩, .string ⟨(tf : Txt).toArray⟩], w1, ?_, rfl, hJ, Below.refl _ _⟩
  have e65 := (hS.got 39 65 (atO (f := fun o => (depsN (opsOf Tryz.f3 6) 107 o).contains 39) ho (by kernel_rfl)) (by kernel_rfl) (by decide)).trans (hD 39 (depM (atO (f := fun o => (depsN (opsOf Tryz.f3 6) 107 o).contains 39) ho (by kernel_rfl))))
  have e72 := (hS.got 46 72 (atO (f := fun o => (depsN (opsOf Tryz.f3 6) 107 o).contains 46) ho (by kernel_rfl)) (by kernel_rfl) (by decide)).trans (hD 46 (depM (atO (f := fun o => (depsN (opsOf Tryz.f3 6) 107 o).contains 46) ho (by kernel_rfl))))
  simp [execOp, hop, go_sem, e65, e72]
set_option maxRecDepth 100000 in
theorem g6_48 (hsz : a0.tmps.size = 182) (h9 : a0.tmps[9]?.getD undef = .func (.func 17) #[] #[.pointer (some ⟨gp, 0, none⟩)]) : ∀ o, (opsOf Tryz.f3 6)[48]? = some o → StepN Tryz.prog (opsOf Tryz.f3 6) 107 a0 (rgR gs gp tp tq tr ta tb tc td te tf tg th ti) (JB w0 gs gp) rgT 48 o := by
  intro o ho
  have hop : o.op = .move (.tmp 9) := atO (f := (·.op)) ho (by kernel_rfl)
  have hgd : o.guard = none := atO (f := (·.guard)) ho (by kernel_rfl)
  refine Step.val (n := 182) hsz (by kernel_rfl) fun vs w1 b hJ hD hS => ⟨by simp [Region.wanted, hgd], .func (.func 17) #[] #[.pointer (some ⟨gp, 0, none⟩)], w1, ?_, rfl, hJ, Below.refl _ _⟩
  have e9 := (hS.rest 9 (atO (f := fun o => (depsN (opsOf Tryz.f3 6) 107 o).all fun j => dstOf (opsOf Tryz.f3 6) j != some 9) ho (by kernel_rfl))).trans h9
  simp [execOp, hop, go_sem, e9]
set_option maxRecDepth 100000 in
theorem g6_49 (hsz : a0.tmps.size = 182) (h0 : a0.tmps[0]?.getD undef = .string ⟨(tp : Txt).toArray⟩) : ∀ o, (opsOf Tryz.f3 6)[49]? = some o → StepN Tryz.prog (opsOf Tryz.f3 6) 107 a0 (rgR gs gp tp tq tr ta tb tc td te tf tg th ti) (JB w0 gs gp) rgT 49 o := by
  intro o ho
  have hop : o.op = .move (.tmp 0) := atO (f := (·.op)) ho (by kernel_rfl)
  have hgd : o.guard = none := atO (f := (·.guard)) ho (by kernel_rfl)
  refine Step.val (n := 182) hsz (by kernel_rfl) fun vs w1 b hJ hD hS => ⟨by simp [Region.wanted, hgd], .string ⟨(tp : Txt).toArray⟩, w1, ?_, rfl, hJ, Below.refl _ _⟩
  have e0 := (hS.rest 0 (atO (f := fun o => (depsN (opsOf Tryz.f3 6) 107 o).all fun j => dstOf (opsOf Tryz.f3 6) j != some 0) ho (by kernel_rfl))).trans h0
  simp [execOp, hop, go_sem, e0]
set_option maxRecDepth 100000 in
theorem g6_50 (hsz : a0.tmps.size = 182) (h8 : a0.tmps[8]?.getD undef = .func (.func 14) #[] #[.pointer (some ⟨gp, 0, none⟩)]) : ∀ o, (opsOf Tryz.f3 6)[50]? = some o → StepN Tryz.prog (opsOf Tryz.f3 6) 107 a0 (rgR gs gp tp tq tr ta tb tc td te tf tg th ti) (JB w0 gs gp) rgT 50 o := by
  intro o ho
  have hop : o.op = .move (.tmp 8) := atO (f := (·.op)) ho (by kernel_rfl)
  have hgd : o.guard = none := atO (f := (·.guard)) ho (by kernel_rfl)
  refine Step.val (n := 182) hsz (by kernel_rfl) fun vs w1 b hJ hD hS => ⟨by simp [Region.wanted, hgd], .func (.func 14) #[] #[.pointer (some ⟨gp, 0, none⟩)], w1, ?_, rfl, hJ, Below.refl _ _⟩
  have e8 := (hS.rest 8 (atO (f := fun o => (depsN (opsOf Tryz.f3 6) 107 o).all fun j => dstOf (opsOf Tryz.f3 6) j != some 8) ho (by kernel_rfl))).trans h8
  simp [execOp, hop, go_sem, e8]
set_option maxRecDepth 100000 in
theorem g6_51 (hsz : a0.tmps.size = 182) (h1 : a0.tmps[1]?.getD undef = .string ⟨(tq : Txt).toArray⟩) : ∀ o, (opsOf Tryz.f3 6)[51]? = some o → StepN Tryz.prog (opsOf Tryz.f3 6) 107 a0 (rgR gs gp tp tq tr ta tb tc td te tf tg th ti) (JB w0 gs gp) rgT 51 o := by
  intro o ho
  have hop : o.op = .move (.tmp 1) := atO (f := (·.op)) ho (by kernel_rfl)
  have hgd : o.guard = none := atO (f := (·.guard)) ho (by kernel_rfl)
  refine Step.val (n := 182) hsz (by kernel_rfl) fun vs w1 b hJ hD hS => ⟨by simp [Region.wanted, hgd], .string ⟨(tq : Txt).toArray⟩, w1, ?_, rfl, hJ, Below.refl _ _⟩
  have e1 := (hS.rest 1 (atO (f := fun o => (depsN (opsOf Tryz.f3 6) 107 o).all fun j => dstOf (opsOf Tryz.f3 6) j != some 1) ho (by kernel_rfl))).trans h1
  simp [execOp, hop, go_sem, e1]
set_option maxRecDepth 100000 in
theorem g6_52 (hsz : a0.tmps.size = 182) (h2 : a0.tmps[2]?.getD undef = .string ⟨(tr : Txt).toArray⟩) : ∀ o, (opsOf Tryz.f3 6)[52]? = some o → StepN Tryz.prog (opsOf Tryz.f3 6) 107 a0 (rgR gs gp tp tq tr ta tb tc td te tf tg th ti) (JB w0 gs gp) rgT 52 o := by
  intro o ho
  have hop : o.op = .move (.tmp 2) := atO (f := (·.op)) ho (by kernel_rfl)
  have hgd : o.guard = none := atO (f := (·.guard)) ho (by kernel_rfl)
  refine Step.val (n := 182) hsz (by kernel_rfl) fun vs w1 b hJ hD hS => ⟨by simp [Region.wanted, hgd], .string ⟨(tr : Txt).toArray⟩, w1, ?_, rfl, hJ, Below.refl _ _⟩
  have e2 := (hS.rest 2 (atO (f := fun o => (depsN (opsOf Tryz.f3 6) 107 o).all fun j => dstOf (opsOf Tryz.f3 6) j != some 2) ho (by kernel_rfl))).trans h2
  simp [execOp, hop, go_sem, e2]
set_option maxRecDepth 100000 in
theorem g6_53 (hsz : a0.tmps.size = 182) (HA4 : AddP tq tr tb) : ∀ o, (opsOf Tryz.f3 6)[53]? = some o → StepN Tryz.prog (opsOf Tryz.f3 6) 107 a0 (rgR gs gp tp tq tr ta tb tc td te tf tg th ti) (JB w0 gs gp) rgT 53 o := by
  intro o ho
  have hop : o.op = .call { callee := .value (.tmp 76), args := #[.tmp 77, .tmp 78], argTypes := #[22, 22] } := atO (f := (·.op)) ho (by kernel_rfl)
  have hgd : o.guard = none := atO (f := (·.guard)) ho (by kernel_rfl)
  refine Step.call (n := 182) hsz (by kernel_rfl) fun vs w1 b hJ hD hS => ⟨by simp [Region.wanted, hgd], 14, #[.string ⟨(tq : Txt).toArray⟩, .string ⟨(tr : Txt).toArray⟩, .pointer (some ⟨gp, 0, none⟩)], ?_, ?_⟩
  · have e76 := (hS.got 50 76 (atO (f := fun o => (depsN (opsOf Tryz.f3 6) 107 o).contains 50) ho (by kernel_rfl)) (by kernel_rfl) (by decide)).trans (hD 50 (depM (atO (f := fun o => (depsN (opsOf Tryz.f3 6) 107 o).contains 50) ho (by kernel_rfl))))
    have e77 := (hS.got 51 77 (atO (f := fun o => (depsN (opsOf Tryz.f3 6) 107 o).contains 51) ho (by kernel_rfl)) (by kernel_rfl) (by decide)).trans (hD 51 (depM (atO (f := fun o => (depsN (opsOf Tryz.f3 6) 107 o).contains 51) ho (by kernel_rfl))))
    have e78 := (hS.got 52 78 (atO (f := fun o => (depsN (opsOf Tryz.f3 6) 107 o).contains 52) ho (by kernel_rfl)) (by kernel_rfl) (by decide)).trans (hD 52 (depM (atO (f := fun o => (depsN (opsOf Tryz.f3 6) 107 o).contains 52) ho (by kernel_rfl))))
    simp [execOp, hop, go_sem, e76, e77, e78]
  · exact (HA4 gs gp w1 hJ.j).mono fun e w2 ⟨h1, h2⟩ => ⟨_, h1, rfl, JB.later hJ h2, h2⟩
set_option maxRecDepth 100000 in
theorem g6_54 (hsz : a0.tmps.size = 182) (HM6 : MulP tp tb tg) : ∀ o, (opsOf Tryz.f3 6)[54]? = some o → StepN Tryz.prog (opsOf Tryz.f3 6) 107 a0 (rgR gs gp tp tq tr ta tb tc td te tf tg th ti) (JB w0 gs gp) rgT 54 o := by
  intro o ho
  have hop : o.op = .call { callee := .value (.tmp 74), args := #[.tmp 75, .tmp 79], argTypes := #[22, 22] } := atO (f := (·.op)) ho (by kernel_rfl)
  have hgd : o.guard = none := atO (f := (·.guard)) ho (by kernel_rfl)
  refine Step.call (n := 182) hsz (by kernel_rfl) fun vs w1 b hJ hD hS => ⟨by simp [Region.wanted, hgd], 17, #[.string ⟨(tp : Txt).toArray⟩, .string ⟨(tb : Txt).toArray⟩, .pointer (some ⟨gp, 0, none⟩)], ?_, ?_⟩
  · have e74 := (hS.got 48 74 (atO (f := fun o => (depsN (opsOf Tryz.f3 6) 107 o).contains 48) ho (by kernel_rfl)) (by kernel_rfl) (by decide)).trans (hD 48 (depM (atO (f := fun o => (depsN (opsOf Tryz.f3 6) 107 o).contains 48) ho (by kernel_rfl))))
    have e75 := (hS.got 49 75 (atO (f := fun o => (depsN (opsOf Tryz.f3 6) 107 o).contains 49) ho (by kernel_rfl)) (by kernel_rfl) (by decide)).trans (hD 49 (depM (atO (f := fun o => (depsN (opsOf Tryz.f3 6) 107 o).contains 49) ho (by kernel_rfl))))
    have e79 := (hS.got 53 79 (atO (f := fun o => (depsN (opsOf Tryz.f3 6) 107 o).contains 53) ho (by kernel_rfl)) (by kernel_rfl) (by decide)).trans (hD 53 (depM (atO (f := fun o => (depsN (opsOf Tryz.f3 6) 107 o).contains 53) ho (by kernel_rfl))))
    simp [execOp, hop, go_sem, e74, e75, e79]
  · exact (HM6 gs gp w1 hJ.j).mono fun e w2 ⟨h1, h2⟩ => ⟨_, h1, rfl, JB.later hJ h2, h2⟩
set_option maxRecDepth 100000 in
theorem g6_55 (hsz : a0.tmps.size = 182) (h8 : a0.tmps[8]?.getD undef = .func (.func 14) #[] #[.pointer (some ⟨gp, 0, none⟩)]) : ∀ o, (opsOf Tryz.f3 6)[55]? = some o → StepN Tryz.prog (opsOf Tryz.f3 6) 107 a0 (rgR gs gp tp tq tr ta tb tc td te tf tg th ti) (JB w0 gs gp) rgT 55 o := by
  intro o ho
  have hop : o.op = .move (.tmp 8) := atO (f := (·.op)) ho (by kernel_rfl)
  have hgd : o.guard = none := atO (f := (·.guard)) ho (by kernel_rfl)
  refine Step.val (n := 182) hsz (by kernel_rfl) fun vs w1 b hJ hD hS => ⟨by simp [Region.wanted, hgd], .func (.func 14) #[] #[.pointer (some ⟨gp, 0, none⟩)], w1, ?_, rfl, hJ, Below.refl _ _⟩
  have e8 := (hS.rest 8 (atO (f := fun o => (depsN (opsOf Tryz.f3 6) 107 o).all fun j => dstOf (opsOf Tryz.f3 6) j != some 8) ho (by kernel_rfl))).trans h8
  simp [execOp, hop, go_sem, e8]
set_option maxRecDepth 100000 in
theorem g6_56 (hsz : a0.tmps.size = 182) (h9 : a0.tmps[9]?.getD undef = .func (.func 17) #[] #[.pointer (some ⟨gp, 0, none⟩)]) : ∀ o, (opsOf Tryz.f3 6)[56]? = some o → StepN Tryz.prog (opsOf Tryz.f3 6) 107 a0 (rgR gs gp tp tq tr ta tb tc td te tf tg th ti) (JB w0 gs gp) rgT 56 o := by
  intro o ho
  have hop : o.op = .move (.tmp 9) := atO (f := (·.op)) ho (by kernel_rfl)
  have hgd : o.guard = none := atO (f := (·.guard)) ho (by kernel_rfl)
  refine Step.val (n := 182) hsz (by kernel_rfl) fun vs w1 b hJ hD hS => ⟨by simp [Region.wanted, hgd], .func (.func 17) #[] #[.pointer (some ⟨gp, 0, none⟩)], w1, ?_, rfl, hJ, Below.refl _ _⟩
  have e9 := (hS.rest 9 (atO (f := fun o => (depsN (opsOf Tryz.f3 6) 107 o).all fun j => dstOf (opsOf Tryz.f3 6) j != some 9) ho (by kernel_rfl))).trans h9
  simp [execOp, hop, go_sem, e9]
set_option maxRecDepth 100000 in
theorem g6_57 (hsz : a0.tmps.size = 182) (h0 : a0.tmps[0]?.getD undef = .string ⟨(tp : Txt).toArray⟩) : ∀ o, (opsOf Tryz.f3 6)[57]? = some o → StepN Tryz.prog (opsOf Tryz.f3 6) 107 a0 (rgR gs gp tp tq tr ta tb tc td te tf tg th ti) (JB w0 gs gp) rgT 57 o := by
  intro o ho
  have hop : o.op = .move (.tmp 0) := atO (f := (·.op)) ho (by kernel_rfl)
  have hgd : o.guard = none := atO (f := (·.guard)) ho (by kernel_rfl)
  refine Step.val (n := 182) hsz (by kernel_rfl) fun vs w1 b hJ hD hS => ⟨by simp [Region.wanted, hgd], .string ⟨(tp : Txt).toArray⟩, w1, ?_, rfl, hJ, Below.refl _ _⟩
  have e0 := (hS.rest 0 (atO (f := fun o => (depsN (opsOf Tryz.f3 6) 107 o).all fun j => dstOf (opsOf Tryz.f3 6) j != some 0) ho (by kernel_rfl))).trans h0
  simp [execOp, hop, go_sem, e0]
set_option maxRecDepth 100000 in
theorem g6_58 (hsz : a0.tmps.size = 182) (h1 : a0.tmps[1]?.getD undef = .string ⟨(tq : Txt).toArray⟩) : ∀ o, (opsOf Tryz.f3 6)[58]? = some o → StepN Tryz.prog (opsOf Tryz.f3 6) 107 a0 (rgR gs gp tp tq tr ta tb tc td te tf tg th ti) (JB w0 gs gp) rgT 58 o := by
  intro o ho
  have hop : o.op = .move (.tmp 1) := atO (f := (·.op)) ho (by kernel_rfl)
  have hgd : o.guard = none := atO (f := (·.guard)) ho (by kernel_rfl)
  refine Step.val (n := 182) hsz (by kernel_rfl) fun vs w1 b hJ hD hS => ⟨by simp [Region.wanted, hgd], .string ⟨(tq : Txt).toArray⟩, w1, ?_, rfl, hJ, Below.refl _ _⟩
  have e1 := (hS.rest 1 (atO (f := fun o => (depsN (opsOf Tryz.f3 6) 107 o).all fun j => dstOf (opsOf Tryz.f3 6) j != some 1) ho (by kernel_rfl))).trans h1
  simp [execOp, hop, go_sem, e1]
set_option maxRecDepth 100000 in
theorem g6_59 (hsz : a0.tmps.size = 182) (HM1 : MulP tp tq td) : ∀ o, (opsOf Tryz.f3 6)[59]? = some o → StepN Tryz.prog (opsOf Tryz.f3 6) 107 a0 (rgR gs gp tp tq tr ta tb tc td te tf tg th ti) (JB w0 gs gp) rgT 59 o := by
  intro o ho
  have hop : o.op = .call { callee := .value (.tmp 82), args := #[.tmp 83, .tmp 84], argTypes := #[22, 22] } := atO (f := (·.op)) ho (by kernel_rfl)
  have hgd : o.guard = none := atO (f := (·.guard)) ho (by kernel_rfl)
  refine Step.call (n := 182) hsz (by kernel_rfl) fun vs w1 b hJ hD hS => ⟨by simp [Region.wanted, hgd], 17, #[.string ⟨(tp : Txt).toArray⟩, .string ⟨(tq : Txt).toArray⟩, .pointer (some ⟨gp, 0, none⟩)], ?_, ?_⟩
  · have e82 := (hS.got 56 82 (atO (f := fun o => (depsN (opsOf Tryz.f3 6) 107 o).contains 56) ho (by kernel_rfl)) (by kernel_rfl) (by decide)).trans (hD 56 (depM (atO (f := fun o => (depsN (opsOf Tryz.f3 6) 107 o).contains 56) ho (by kernel_rfl))))
    have e83 := (hS.got 57 83 (atO (f := fun o => (depsN (opsOf Tryz.f3 6) 107 o).contains 57) ho (by kernel_rfl)) (by kernel_rfl) (by decide)).trans (hD 57 (depM (atO (f := fun o => (depsN (opsOf Tryz.f3 6) 107 o).contains 57) ho (by kernel_rfl))))
    have e84 := (hS.got 58 84 (atO (f := fun o => (depsN (opsOf Tryz.f3 6) 107 o).contains 58) ho (by kernel_rfl)) (by kernel_rfl) (by decide)).trans (hD 58 (depM (atO (f := fun o => (depsN (opsOf Tryz.f3 6) 107 o).contains 58) ho (by kernel_rfl))))
    simp [execOp, hop, go_sem, e82, e83, e84]
  · exact (HM1 gs gp w1 hJ.j).mono fun e w2 ⟨h1, h2⟩ => ⟨_, h1, rfl, JB.later hJ h2, h2⟩
set_option maxRecDepth 100000 in
theorem g6_60 (hsz : a0.tmps.size = 182) (h9 : a0.tmps[9]?.getD undef = .func (.func 17) #[] #[.pointer (some ⟨gp, 0, none⟩)]) : ∀ o, (opsOf Tryz.f3 6)[60]? = some o → StepN Tryz.prog (opsOf Tryz.f3 6) 107 a0 (rgR gs gp tp tq tr ta tb tc td te tf tg th ti) (JB w0 gs gp) rgT 60 o := by
  intro o ho
  have hop : o.op = .move (.tmp 9) := atO (f := (·.op)) ho (by kernel_rfl)
  have hgd : o.guard = none := atO (f := (·.guard)) ho (by kernel_rfl)
  refine Step.val (n := 182) hsz (by kernel_rfl) fun vs w1 b hJ hD hS => ⟨by simp [Region.wanted, hgd], .func (.func 17) #[] #[.pointer (some ⟨gp, 0, none⟩)], w1, ?_, rfl, hJ, Below.refl _ _⟩
  have e9 := (hS.rest 9 (atO (f := fun o => (depsN (opsOf Tryz.f3 6) 107 o).all fun j => dstOf (opsOf Tryz.f3 6) j != some 9) ho (by kernel_rfl))).trans h9
  simp [execOp, hop, go_sem, e9]
set_option maxRecDepth 100000 in
theorem g6_61 (hsz : a0.tmps.size = 182) (h0 : a0.tmps[0]?.getD undef = .string ⟨(tp : Txt).toArray⟩) : ∀ o, (opsOf Tryz.f3 6)[61]? = some o → StepN Tryz.prog (opsOf Tryz.f3 6) 107 a0 (rgR gs gp tp tq tr ta tb tc td te tf tg th ti) (JB w0 gs gp) rgT 61 o := by
  intro o ho
  have hop : o.op = .move (.tmp 0) := atO (f := (·.op)) ho (by kernel_rfl)
  have hgd : o.guard = none := atO (f := (·.guard)) ho (by kernel_rfl)
  refine Step.val (n := 182) hsz (by kernel_rfl) fun vs w1 b hJ hD hS => ⟨by simp [Region.wanted, hgd], .string ⟨(tp : Txt).toArray⟩, w1, ?_, rfl, hJ, Below.refl _ _⟩
  have e0 := (hS.rest 0 (atO (f := fun o => (depsN (opsOf Tryz.f3 6) 107 o).all fun j => dstOf (opsOf Tryz.f3 6) j != some 0) ho (by kernel_rfl))).trans h0
  simp [execOp, hop, go_sem, e0]
set_option maxRecDepth 100000 in
theorem g6_62 (hsz : a0.tmps.size = 182) (h2 : a0.tmps[2]?.getD undef = .string ⟨(tr : Txt).toArray⟩) : ∀ o, (opsOf Tryz.f3 6)[62]? = some o → StepN Tryz.prog (opsOf Tryz.f3 6) 107 a0 (rgR gs gp tp tq tr ta tb tc td te tf tg th ti) (JB w0 gs gp) rgT 62 o := by
  intro o ho
  have hop : o.op = .move (.tmp 2) := atO (f := (·.op)) ho (by kernel_rfl)
  have hgd : o.guard = none := atO (f := (·.guard)) ho (by kernel_rfl)
  refine Step.val (n := 182) hsz (by kernel_rfl) fun vs w1 b hJ hD hS => ⟨by simp [Region.wanted, hgd], .string ⟨(tr : Txt).toArray⟩, w1, ?_, rfl, hJ, Below.refl _ _⟩
  have e2 := (hS.rest 2 (atO (f := fun o => (depsN (opsOf Tryz.f3 6) 107 o).all fun j => dstOf (opsOf Tryz.f3 6) j != some 2) ho (by kernel_rfl))).trans h2
  simp [execOp, hop, go_sem, e2]
set_option maxRecDepth 100000 in
theorem g6_63 (hsz : a0.tmps.size = 182) (HM7 : MulP tp tr th) : ∀ o, (opsOf Tryz.f3 6)[63]? = some o → StepN Tryz.prog (opsOf Tryz.f3 6) 107 a0 (rgR gs gp tp tq tr ta tb tc td te tf tg th ti) (JB w0 gs gp) rgT 63 o := by
  intro o ho
  have hop : o.op = .call { callee := .value (.tmp 86), args := #[.tmp 87, .tmp 88], argTypes := #[22, 22] } := atO (f := (·.op)) ho (by kernel_rfl)
  have hgd : o.guard = none := atO (f := (·.guard)) ho (by kernel_rfl)
  refine Step.call (n := 182) hsz (by kernel_rfl) fun vs w1 b hJ hD hS => ⟨by simp [Region.wanted, hgd], 17, #[.string ⟨(tp : Txt).toArray⟩, .string ⟨(tr : Txt).toArray⟩, .pointer (some ⟨gp, 0, none⟩)], ?_, ?_⟩
  · have e86 := (hS.got 60 86 (atO (f := fun o => (depsN (opsOf Tryz.f3 6) 107 o).contains 60) ho (by kernel_rfl)) (by kernel_rfl) (by decide)).trans (hD 60 (depM (atO (f := fun o => (depsN (opsOf Tryz.f3 6) 107 o).contains 60) ho (by kernel_rfl))))
    have e87 := (hS.got 61 87 (atO (f := fun o => (depsN (opsOf Tryz.f3 6) 107 o).contains 61) ho (by kernel_rfl)) (by kernel_rfl) (by decide)).trans (hD 61 (depM (atO (f := fun o => (depsN (opsOf Tryz.f3 6) 107 o).contains 61) ho (by kernel_rfl))))
    have e88 := (hS.got 62 88 (atO (f := fun o => (depsN (opsOf Tryz.f3 6) 107 o).contains 62) ho (by kernel_rfl)) (by kernel_rfl) (by decide)).trans (hD 62 (depM (atO (f := fun o => (depsN (opsOf Tryz.f3 6) 107 o).contains 62) ho (by kernel_rfl))))
    simp [execOp, hop, go_sem, e86, e87, e88]
  · exact (HM7 gs gp w1 hJ.j).mono fun e w2 ⟨h1, h2⟩ => ⟨_, h1, rfl, JB.later hJ h2, h2⟩
set_option maxRecDepth 100000 in
theorem g6_64 (hsz : a0.tmps.size = 182) (HA6 : AddP td th tg) : ∀ o, (opsOf Tryz.f3 6)[64]? = some o → StepN Tryz.prog (opsOf Tryz.f3 6) 107 a0 (rgR gs gp tp tq tr ta tb tc td te tf tg th ti) (JB w0 gs gp) rgT 64 o := by
  intro o ho
  have hop : o.op = .call { callee := .value (.tmp 81), args := #[.tmp 85, .tmp 89], argTypes := #[22, 22] } := atO (f := (·.op)) ho (by kernel_rfl)
  have hgd : o.guard = none := atO (f := (·.guard)) ho (by kernel_rfl)
  refine Step.call (n := 182) hsz (by kernel_rfl) fun vs w1 b hJ hD hS => ⟨by simp [Region.wanted, hgd], 14, #[.string ⟨(td : Txt).toArray⟩, .string ⟨(th : Txt).toArray⟩, .pointer (some ⟨gp, 0, none⟩)], ?_, ?_⟩
  · have e81 := (hS.got 55 81 (atO (f := fun o => (depsN (opsOf Tryz.f3 6) 107 o).contains 55) ho (by kernel_rfl)) (by kernel_rfl) (by decide)).trans (hD 55 (depM (atO (f := fun o => (depsN (opsOf Tryz.f3 6) 107 o).contains 55) ho (by kernel_rfl))))
    have e85 := (hS.got 59 85 (atO (f := fun o => (depsN (opsOf Tryz.f3 6) 107 o).contains 59) ho (by kernel_rfl)) (by kernel_rfl) (by decide)).trans (hD 59 (depM (atO (f := fun o => (depsN (opsOf Tryz.f3 6) 107 o).contains 59) ho (by kernel_rfl))))
    have e89 := (hS.got 63 89 (atO (f := fun o => (depsN (opsOf Tryz.f3 6) 107 o).contains 63) ho (by kernel_rfl)) (by kernel_rfl) (by decide)).trans (hD 63 (depM (atO (f := fun o => (depsN (opsOf Tryz.f3 6) 107 o).contains 63) ho (by kernel_rfl))))
    simp [execOp, hop, go_sem, e81, e85, e89]
  · exact (HA6 gs gp w1 hJ.j).mono fun e w2 ⟨h1, h2⟩ => ⟨_, h1, rfl, JB.later hJ h2, h2⟩
set_option maxRecDepth 100000 in
theorem g6_65 (hsz : a0.tmps.size = 182) : ∀ o, (opsOf Tryz.f3 6)[65]? = some o → StepN Tryz.prog (opsOf Tryz.f3 6) 107 a0 (rgR gs gp tp tq tr ta tb tc td te tf tg th ti) (JB w0 gs gp) rgT 65 o := by
  intro o ho
  have hop : o.op = .build 33 #[(0, .tmp 80), (1, .tmp 90)] := atO (f := (·.op)) ho (by kernel_rfl)
  have hgd : o.guard = none := atO (f := (·.guard)) ho (by kernel_rfl)
  refine Step.val (n := 182) hsz (by kernel_rfl) fun vs w1 b hJ hD hS => ⟨by simp [Region.wanted, hgd], .agg #[.string ⟨(tg : Txt).toArray⟩, .string ⟨(tg : Txt).toArray⟩], w1, ?_, rfl, hJ, Below.refl _ _⟩
  have e80 := (hS.got 54 80 (atO (f := fun o => (depsN (opsOf Tryz.f3 6) 107 o).contains 54) ho (by kernel_rfl)) (by kernel_rfl) (by decide)).trans (hD 54 (depM (atO (f := fun o => (depsN (opsOf Tryz.f3 6) 107 o).contains 54) ho (by kernel_rfl))))
  have e90 := (hS.got 64 90 (atO (f := fun o => (depsN (opsOf Tryz.f3 6) 107 o).contains 64) ho (by kernel_rfl)) (by kernel_rfl) (by decide)).trans (hD 64 (depM (atO (f := fun o => (depsN (opsOf Tryz.f3 6) 107 o).contains 64) ho (by kernel_rfl))))
  simp [execOp, hop, go_sem, e80, e90]
set_option maxRecDepth 100000 in
theorem g6_66 (hsz : a0.tmps.size = 182) (h7 : a0.tmps[7]?.getD undef = .pointer (some ⟨gp, 0, none⟩)) : ∀ o, (opsOf Tryz.f3 6)[66]? = some o → StepN Tryz.prog (opsOf Tryz.f3 6) 107 a0 (rgR gs gp tp tq tr ta tb tc td te tf tg th ti) (JB w0 gs gp) rgT 66 o := by
  intro o ho
  have hop : o.op = .load 25 (.tmp 7) := atO (f := (·.op)) ho (by kernel_rfl)
  have hgd : o.guard = none := atO (f := (·.guard)) ho (by kernel_rfl)
  refine Step.val (n := 182) hsz (by kernel_rfl) fun vs w1 b hJ hD hS => ⟨by simp [Region.wanted, hgd], .pointer (some ⟨gs, 0, none⟩), w1, ?_, rfl, hJ, Below.refl _ _⟩
  have e7 := (hS.rest 7 (atO (f := fun o => (depsN (opsOf Tryz.f3 6) 107 o).all fun j => dstOf (opsOf Tryz.f3 6) j != some 7) ho (by kernel_rfl))).trans h7
  have c0 := hJ.j.c
  simp [execOp, hop, go_sem, e7, c0]
set_option maxRecDepth 100000 in
theorem g6_67 (hsz : a0.tmps.size = 182) (h8 : a0.tmps[8]?.getD undef = .func (.func 14) #[] #[.pointer (some ⟨gp, 0, none⟩)]) : ∀ o, (opsOf Tryz.f3 6)[67]? = some o → StepN Tryz.prog (opsOf Tryz.f3 6) 107 a0 (rgR gs gp tp tq tr ta tb tc td te tf tg th ti) (JB w0 gs gp) rgT 67 o := by
  intro o ho
  have hop : o.op = .move (.tmp 8) := atO (f := (·.op)) ho (by kernel_rfl)
  have hgd : o.guard = none := atO (f := (·.guard)) ho (by kernel_rfl)
  refine Step.val (n := 182) hsz (by kernel_rfl) fun vs w1 b hJ hD hS => ⟨by simp [Region.wanted, hgd], .func (.func 14) #[] #[.pointer (some ⟨gp, 0, none⟩)], w1, ?_, rfl, hJ, Below.refl _ _⟩
  have e8 := (hS.rest 8 (atO (f := fun o => (depsN (opsOf Tryz.f3 6) 107 o).all fun j => dstOf (opsOf Tryz.f3 6) j != some 8) ho (by kernel_rfl))).trans h8
  simp [execOp, hop, go_sem, e8]
set_option maxRecDepth 100000 in
theorem g6_68 (hsz : a0.tmps.size = 182) (h0 : a0.tmps[0]?.getD undef = .string ⟨(tp : Txt).toArray⟩) : ∀ o, (opsOf Tryz.f3 6)[68]? = some o → StepN Tryz.prog (opsOf Tryz.f3 6) 107 a0 (rgR gs gp tp tq tr ta tb tc td te tf tg th ti) (JB w0 gs gp) rgT 68 o := by
  intro o ho
  have hop : o.op = .move (.tmp 0) := atO (f := (·.op)) ho (by kernel_rfl)
  have hgd : o.guard = none := atO (f := (·.guard)) ho (by kernel_rfl)
  refine Step.val (n := 182) hsz (by kernel_rfl) fun vs w1 b hJ hD hS => ⟨by simp [Region.wanted, hgd], .string ⟨(tp : Txt).toArray⟩, w1, ?_, rfl, hJ, Below.refl _ _⟩
  have e0 := (hS.rest 0 (atO (f := fun o => (depsN (opsOf Tryz.f3 6) 107 o).all fun j => dstOf (opsOf Tryz.f3 6) j != some 0) ho (by kernel_rfl))).trans h0
  simp [execOp, hop, go_sem, e0]
set_option maxRecDepth 100000 in
theorem g6_69 (hsz : a0.tmps.size = 182) (h1 : a0.tmps[1]?.getD undef = .string ⟨(tq : Txt).toArray⟩) : ∀ o, (opsOf Tryz.f3 6)[69]? = some o → StepN Tryz.prog (opsOf Tryz.f3 6) 107 a0 (rgR gs gp tp tq tr ta tb tc td te tf tg th ti) (JB w0 gs gp) rgT 69 o := by
  intro o ho
  have hop : o.op = .move (.tmp 1) := atO (f := (·.op)) ho (by kernel_rfl)
  have hgd : o.guard = none := atO (f := (·.guard)) ho (by kernel_rfl)
  refine Step.val (n := 182) hsz (by kernel_rfl) fun vs w1 b hJ hD hS => ⟨by simp [Region.wanted, hgd], .string ⟨(tq : Txt).toArray⟩, w1, ?_, rfl, hJ, Below.refl _ _⟩
  have e1 := (hS.rest 1 (atO (f := fun o => (depsN (opsOf Tryz.f3 6) 107 o).all fun j => dstOf (opsOf Tryz.f3 6) j != some 1) ho (by kernel_rfl))).trans h1
  simp [execOp, hop, go_sem, e1]
set_option maxRecDepth 100000 in
theorem g6_70 (hsz : a0.tmps.size = 182) (HA1 : AddP tp tq ta) : ∀ o, (opsOf Tryz.f3 6)[70]? = some o → StepN Tryz.prog (opsOf Tryz.f3 6) 107 a0 (rgR gs gp tp tq tr ta tb tc td te tf tg th ti) (JB w0 gs gp) rgT 70 o := by
  intro o ho
  have hop : o.op = .call { callee := .value (.tmp 93), args := #[.tmp 94, .tmp 95], argTypes := #[22, 22] } := atO (f := (·.op)) ho (by kernel_rfl)
  have hgd : o.guard = none := atO (f := (·.guard)) ho (by kernel_rfl)
  refine Step.call (n := 182) hsz (by kernel_rfl) fun vs w1 b hJ hD hS => ⟨by simp [Region.wanted, hgd], 14, #[.string ⟨(tp : Txt).toArray⟩, .string ⟨(tq : Txt).toArray⟩, .pointer (some ⟨gp, 0, none⟩)], ?_, ?_⟩
  · have e93 := (hS.got 67 93 (atO (f := fun o => (depsN (opsOf Tryz.f3 6) 107 o).contains 67) ho (by kernel_rfl)) (by kernel_rfl) (by decide)).trans (hD 67 (depM (atO (f := fun o => (depsN (opsOf Tryz.f3 6) 107 o).contains 67) ho (by kernel_rfl))))
    have e94 := (hS.got 68 94 (atO (f := fun o => (depsN (opsOf Tryz.f3 6) 107 o).contains 68) ho (by kernel_rfl)) (by kernel_rfl) (by decide)).trans (hD 68 (depM (atO (f := fun o => (depsN (opsOf Tryz.f3 6) 107 o).contains 68) ho (by kernel_rfl))))
    have e95 := (hS.got 69 95 (atO (f := fun o => (depsN (opsOf Tryz.f3 6) 107 o).contains 69) ho (by kernel_rfl)) (by kernel_rfl) (by decide)).trans (hD 69 (depM (atO (f := fun o => (depsN (opsOf Tryz.f3 6) 107 o).contains 69) ho (by kernel_rfl))))
    simp [execOp, hop, go_sem, e93, e94, e95]
  · exact (HA1 gs gp w1 hJ.j).mono fun e w2 ⟨h1, h2⟩ => ⟨_, h1, rfl, JB.later hJ h2, h2⟩
set_option maxRecDepth 100000 in
theorem g6_71 (hsz : a0.tmps.size = 182) (h1 : a0.tmps[1]?.getD undef = .string ⟨(tq : Txt).toArray⟩) : ∀ o, (opsOf Tryz.f3 6)[71]? = some o → StepN Tryz.prog (opsOf Tryz.f3 6) 107 a0 (rgR gs gp tp tq tr ta tb tc td te tf tg th ti) (JB w0 gs gp) rgT 71 o := by
  intro o ho
  have hop : o.op = .move (.tmp 1) := atO (f := (·.op)) ho (by kernel_rfl)
  have hgd : o.guard = none := atO (f := (·.guard)) ho (by kernel_rfl)
  refine Step.val (n := 182) hsz (by kernel_rfl) fun vs w1 b hJ hD hS => ⟨by simp [Region.wanted, hgd], .string ⟨(tq : Txt).toArray⟩, w1, ?_, rfl, hJ, Below.refl _ _⟩
  have e1 := (hS.rest 1 (atO (f := fun o => (depsN (opsOf Tryz.f3 6) 107 o).all fun j => dstOf (opsOf Tryz.f3 6) j != some 1) ho (by kernel_rfl))).trans h1
  simp [execOp, hop, go_sem, e1]
set_option maxRecDepth 100000 in
theorem g6_72 (hsz : a0.tmps.size = 182) (HSUB : ∀ W : World, Good W → Calls Tryz.prog 19 #[.string ⟨(ta : Txt).toArray⟩, .string ⟨(tq : Txt).toArray⟩] W (Ret W (ans2 (tp, 0)))) : ∀ o, (opsOf Tryz.f3 6)[72]? = some o → StepN Tryz.prog (opsOf Tryz.f3 6) 107 a0 (rgR gs gp tp tq tr ta tb tc td te tf tg th ti) (JB w0 gs gp) rgT 72 o := by
  intro o ho
  have hop : o.op = .call { callee := .value (.func 19), args := #[.tmp 96, .tmp 97], argTypes := #[22, 22] } := atO (f := (·.op)) ho (by kernel_rfl)
  have hgd : o.guard = none := atO (f := (·.guard)) ho (by kernel_rfl)
  refine Step.call (n := 182) hsz (by kernel_rfl) fun vs w1 b hJ hD hS => ⟨by simp [Region.wanted, hgd], 19, #[.string ⟨(ta : Txt).toArray⟩, .string ⟨(tq : Txt).toArray⟩], ?_, ?_⟩
  · have e96 := (hS.got 70 96 (atO (f := fun o => (depsN (opsOf Tryz.f3 6) 107 o).contains 70) ho (by kernel_rfl)) (by kernel_rfl) (by decide)).trans (hD 70 (depM (atO (f := fun o => (depsN (opsOf Tryz.f3 6) 107 o).contains 70) ho (by kernel_rfl))))
    have e97 := (hS.got 71 97 (atO (f := fun o => (depsN (opsOf Tryz.f3 6) 107 o).contains 71) ho (by kernel_rfl)) (by kernel_rfl) (by decide)).trans (hD 71 (depM (atO (f := fun o => (depsN (opsOf Tryz.f3 6) 107 o).contains 71) ho (by kernel_rfl))))
    simp [execOp, hop, go_sem, e96, e97]
  · exact (HSUB w1 hJ.j.g).mono fun e w2 ⟨h1, h2⟩ => ⟨_, h1, rfl, JB.later hJ h2, h2⟩
set_option maxRecDepth 100000 in
theorem g6_73 (hsz : a0.tmps.size = 182) : ∀ o, (opsOf Tryz.f3 6)[73]? = some o → StepN Tryz.prog (opsOf Tryz.f3 6) 107 a0 (rgR gs gp tp tq tr ta tb tc td te tf tg th ti) (JB w0 gs gp) rgT 73 o := by
  intro o ho
  have hop : o.op = .extract (.tmp 98) 0 := atO (f := (·.op)) ho (by kernel_rfl)
  have hgd : o.guard = none := atO (f := (·.guard)) ho (by kernel_rfl)
  refine Step.val (n := 182) hsz (by kernel_rfl) fun vs w1 b hJ hD hS => ⟨by simp [Region.wanted, hgd], .string ⟨(tp : Txt).toArray⟩, w1, ?_, rfl, hJ, Below.refl _ _⟩
  have e98 := (hS.got 72 98 (atO (f := fun o => (depsN (opsOf Tryz.f3 6) 107 o).contains 72) ho (by kernel_rfl)) (by kernel_rfl) (by decide)).trans (hD 72 (depM (atO (f := fun o => (depsN (opsOf Tryz.f3 6) 107 o).contains 72) ho (by kernel_rfl))))
  simp [execOp, hop, go_sem, e98, ans2]
set_option maxRecDepth 100000 in
theorem g6_74 (hsz : a0.tmps.size = 182) : ∀ o, (opsOf Tryz.f3 6)[74]? = some o → StepN Tryz.prog (opsOf Tryz.f3 6) 107 a0 (rgR gs gp tp tq tr ta tb tc td te tf tg th ti) (JB w0 gs gp) rgT 74 o := by
  intro o ho
  have hop : o.op = .extract (.tmp 98) 1 := atO (f := (·.op)) ho (by kernel_rfl)
  have hgd : o.guard = none := atO (f := (·.guard)) ho (by kernel_rfl)
  refine Step.val (n := 182) hsz (by kernel_rfl) fun vs w1 b hJ hD hS => ⟨by simp [Region.wanted, hgd], .int .i64 0, w1, ?_, rfl, hJ, Below.refl _ _⟩
  have e98 := (hS.got 72 98 (atO (f := fun o => (depsN (opsOf Tryz.f3 6) 107 o).contains 72) ho (by kernel_rfl)) (by kernel_rfl) (by decide)).trans (hD 72 (depM (atO (f := fun o => (depsN (opsOf Tryz.f3 6) 107 o).contains 72) ho (by kernel_rfl))))
  simp [execOp, hop, go_sem, e98, ans2]
set_option maxRecDepth 100000 in
theorem g6_75 (hsz : a0.tmps.size = 182) (HO_tp : ∀ W : World, W.heap[gs]? = some (.cells #[.bool true] 27 (0, 0)) → Calls Tryz.prog 15 #[.pointer (some ⟨gs, 0, none⟩), .string ⟨(tp : Txt).toArray⟩, .int .i64 0] W (Ret W (.string ⟨(tp : Txt).toArray⟩))) : ∀ o, (opsOf Tryz.f3 6)[75]? = some o → StepN Tryz.prog (opsOf Tryz.f3 6) 107 a0 (rgR gs gp tp tq tr ta tb tc td te tf tg th ti) (JB w0 gs gp) rgT 75 o := by
  intro o ho
  have hop : o.op = .call { callee := .value (.func 15), args := #[.tmp 92, .tmp 99, .tmp 100], argTypes := #[25, 22, 29] } := atO (f := (·.op)) ho (by kernel_rfl)
  have hgd : o.guard = none := atO (f := (·.guard)) ho (by kernel_rfl)
  refine Step.call (n := 182) hsz (by kernel_rfl) fun vs w1 b hJ hD hS => ⟨by simp [Region.wanted, hgd], 15, #[.pointer (some ⟨gs, 0, none⟩), .string ⟨(tp : Txt).toArray⟩, .int .i64 0], ?_, ?_⟩
  · have e92 := (hS.got 66 92 (atO (f := fun o => (depsN (opsOf Tryz.f3 6) 107 o).contains 66) ho (by kernel_rfl)) (by kernel_rfl) (by decide)).trans (hD 66 (depM (atO (f := fun o => (depsN (opsOf Tryz.f3 6) 107 o).contains 66) ho (by kernel_rfl))))
    have e99 := (hS.got 73 99 (atO (f := fun o => (depsN (opsOf Tryz.f3 6) 107 o).contains 73) ho (by kernel_rfl)) (by kernel_rfl) (by decide)).trans (hD 73 (depM (atO (f := fun o => (depsN (opsOf Tryz.f3 6) 107 o).contains 73) ho (by kernel_rfl))))
    have e100 := (hS.got 74 100 (atO (f := fun o => (depsN (opsOf Tryz.f3 6) 107 o).contains 74) ho (by kernel_rfl)) (by kernel_rfl) (by decide)).trans (hD 74 (depM (atO (f := fun o => (depsN (opsOf Tryz.f3 6) 107 o).contains 74) ho (by kernel_rfl))))
    simp [execOp, hop, go_sem, e92, e99, e100]
  · exact (HO_tp w1 hJ.j.s).mono fun e w2 ⟨h1, h2⟩ => ⟨_, h1, rfl, JB.later hJ h2, h2⟩
set_option maxRecDepth 100000 in
theorem g6_76 (hsz : a0.tmps.size = 182) (h0 : a0.tmps[0]?.getD undef = .string ⟨(tp : Txt).toArray⟩) : ∀ o, (opsOf Tryz.f3 6)[76]? = some o → StepN Tryz.prog (opsOf Tryz.f3 6) 107 a0 (rgR gs gp tp tq tr ta tb tc td te tf tg th ti) (JB w0 gs gp) rgT 76 o := by
  intro o ho
  have hop : o.op = .move (.tmp 0) := atO (f := (·.op)) ho (by kernel_rfl)
  have hgd : o.guard = none := atO (f := (·.guard)) ho (by kernel_rfl)
  refine Step.val (n := 182) hsz (by kernel_rfl) fun vs w1 b hJ hD hS => ⟨by simp [Region.wanted, hgd], .string ⟨(tp : Txt).toArray⟩, w1, ?_, rfl, hJ, Below.refl _ _⟩
  have e0 := (hS.rest 0 (atO (f := fun o => (depsN (opsOf Tryz.f3 6) 107 o).all fun j => dstOf (opsOf Tryz.f3 6) j != some 0) ho (by kernel_rfl))).trans h0
  simp [execOp, hop, go_sem, e0]
set_option maxRecDepth 100000 in
theorem g6_77 (hsz : a0.tmps.size = 182) : ∀ o, (opsOf Tryz.f3 6)[77]? = some o → StepN Tryz.prog (opsOf Tryz.f3 6) 107 a0 (rgR gs gp tp tq tr ta tb tc td te tf tg th ti) (JB w0 gs gp) rgT 77 o := by
  intro o ho
  have hop : o.op = .build 33 #[(0, .tmp 101), (1, .tmp 102)] := atO (f := (·.op)) ho (by kernel_rfl)
  have hgd : o.guard = none := atO (f := (·.guard)) ho (by kernel_rfl)
  refine Step.val (n := 182) hsz (by kernel_rfl) fun vs w1 b hJ hD hS => ⟨by simp [Region.wanted, hgd], .agg #[.string ⟨(tp : Txt).toArray⟩, .string ⟨(tp : Txt).toArray⟩], w1, ?_, rfl, hJ, Below.refl _ _⟩
  have e101 := (hS.got 75 101 (atO (f := fun o => (depsN (opsOf Tryz.f3 6) 107 o).contains 75) ho (by kernel_rfl)) (by kernel_rfl) (by decide)).trans (hD 75 (depM (atO (f := fun o => (depsN (opsOf Tryz.f3 6) 107 o).contains 75) ho (by kernel_rfl))))
  have e102 := (hS.got 76 102 (atO (f := fun o => (depsN (opsOf Tryz.f3 6) 107 o).contains 76) ho (by kernel_rfl)) (by kernel_rfl) (by decide)).trans (hD 76 (depM (atO (f := fun o => (depsN (opsOf Tryz.f3 6) 107 o).contains 76) ho (by kernel_rfl))))
  simp [execOp, hop, go_sem, e101, e102]
set_option maxRecDepth 100000 in
theorem g6_78 (hsz : a0.tmps.size = 182) (h8 : a0.tmps[8]?.getD undef = .func (.func 14) #[] #[.pointer (some ⟨gp, 0, none⟩)]) : ∀ o, (opsOf Tryz.f3 6)[78]? = some o → StepN Tryz.prog (opsOf Tryz.f3 6) 107 a0 (rgR gs gp tp tq tr ta tb tc td te tf tg th ti) (JB w0 gs gp) rgT 78 o := by
  intro o ho
  have hop : o.op = .move (.tmp 8) := atO (f := (·.op)) ho (by kernel_rfl)
  have hgd : o.guard = none := atO (f := (·.guard)) ho (by kernel_rfl)
  refine Step.val (n := 182) hsz (by kernel_rfl) fun vs w1 b hJ hD hS => ⟨by simp [Region.wanted, hgd], .func (.func 14) #[] #[.pointer (some ⟨gp, 0, none⟩)], w1, ?_, rfl, hJ, Below.refl _ _⟩
  have e8 := (hS.rest 8 (atO (f := fun o => (depsN (opsOf Tryz.f3 6) 107 o).all fun j => dstOf (opsOf Tryz.f3 6) j != some 8) ho (by kernel_rfl))).trans h8
  simp [execOp, hop, go_sem, e8]
set_option maxRecDepth 100000 in
theorem g6_79 (hsz : a0.tmps.size = 182) (h0 : a0.tmps[0]?.getD undef = .string ⟨(tp : Txt).toArray⟩) : ∀ o, (opsOf Tryz.f3 6)[79]? = some o → StepN Tryz.prog (opsOf Tryz.f3 6) 107 a0 (rgR gs gp tp tq tr ta tb tc td te tf tg th ti) (JB w0 gs gp) rgT 79 o := by
  intro o ho
  have hop : o.op = .move (.tmp 0) := atO (f := (·.op)) ho (by kernel_rfl)
  have hgd : o.guard = none := atO (f := (·.guard)) ho (by kernel_rfl)
  refine Step.val (n := 182) hsz (by kernel_rfl) fun vs w1 b hJ hD hS => ⟨by simp [Region.wanted, hgd], .string ⟨(tp : Txt).toArray⟩, w1, ?_, rfl, hJ, Below.refl _ _⟩
  have e0 := (hS.rest 0 (atO (f := fun o => (depsN (opsOf Tryz.f3 6) 107 o).all fun j => dstOf (opsOf Tryz.f3 6) j != some 0) ho (by kernel_rfl))).trans h0
  simp [execOp, hop, go_sem, e0]
set_option maxRecDepth 100000 in
theorem g6_80 (hsz : a0.tmps.size = 182) (h7 : a0.tmps[7]?.getD undef = .pointer (some ⟨gp, 0, none⟩)) : ∀ o, (opsOf Tryz.f3 6)[80]? = some o → StepN Tryz.prog (opsOf Tryz.f3 6) 107 a0 (rgR gs gp tp tq tr ta tb tc td te tf tg th ti) (JB w0 gs gp) rgT 80 o := by
  intro o ho
  have hop : o.op = .load 25 (.tmp 7) := atO (f := (·.op)) ho (by kernel_rfl)
  have hgd : o.guard = none := atO (f := (·.guard)) ho (by kernel_rfl)
  refine Step.val (n := 182) hsz (by kernel_rfl) fun vs w1 b hJ hD hS => ⟨by simp [Region.wanted, hgd], .pointer (some ⟨gs, 0, none⟩), w1, ?_, rfl, hJ, Below.refl _ _⟩
  have e7 := (hS.rest 7 (atO (f := fun o => (depsN (opsOf Tryz.f3 6) 107 o).all fun j => dstOf (opsOf Tryz.f3 6) j != some 7) ho (by kernel_rfl))).trans h7
  have c0 := hJ.j.c
  simp [execOp, hop, go_sem, e7, c0]
set_option maxRecDepth 100000 in
theorem g6_81 (hsz : a0.tmps.size = 182) (h0 : a0.tmps[0]?.getD undef = .string ⟨(tp : Txt).toArray⟩) : ∀ o, (opsOf Tryz.f3 6)[81]? = some o → StepN Tryz.prog (opsOf Tryz.f3 6) 107 a0 (rgR gs gp tp tq tr ta tb tc td te tf tg th ti) (JB w0 gs gp) rgT 81 o := by
  intro o ho
  have hop : o.op = .move (.tmp 0) := atO (f := (·.op)) ho (by kernel_rfl)
  have hgd : o.guard = none := atO (f := (·.guard)) ho (by kernel_rfl)
  refine Step.val (n := 182) hsz (by kernel_rfl) fun vs w1 b hJ hD hS => ⟨by simp [Region.wanted, hgd], .string ⟨(tp : Txt).toArray⟩, w1, ?_, rfl, hJ, Below.refl _ _⟩
  have e0 := (hS.rest 0 (atO (f := fun o => (depsN (opsOf Tryz.f3 6) 107 o).all fun j => dstOf (opsOf Tryz.f3 6) j != some 0) ho (by kernel_rfl))).trans h0
  simp [execOp, hop, go_sem, e0]
set_option maxRecDepth 100000 in
theorem g6_82 (hsz : a0.tmps.size = 182) (HNEG : ∀ W : World, Good W → Calls Tryz.prog 20 #[.string ⟨(tp : Txt).toArray⟩] W (Ret W (ans2 (ti, 0)))) : ∀ o, (opsOf Tryz.f3 6)[82]? = some o → StepN Tryz.prog (opsOf Tryz.f3 6) 107 a0 (rgR gs gp tp tq tr ta tb tc td te tf tg th ti) (JB w0 gs gp) rgT 82 o := by
  intro o ho
  have hop : o.op = .call { callee := .value (.func 20), args := #[.tmp 107], argTypes := #[22] } := atO (f := (·.op)) ho (by kernel_rfl)
  have hgd : o.guard = none := atO (f := (·.guard)) ho (by kernel_rfl)
  refine Step.call (n := 182) hsz (by kernel_rfl) fun vs w1 b hJ hD hS => ⟨by simp [Region.wanted, hgd], 20, #[.string ⟨(tp : Txt).toArray⟩], ?_, ?_⟩
  · have e107 := (hS.got 81 107 (atO (f := fun o => (depsN (opsOf Tryz.f3 6) 107 o).contains 81) ho (by kernel_rfl)) (by kernel_rfl) (by decide)).trans (hD 81 (depM (atO (f := fun o => (depsN (opsOf Tryz.f3 6) 107 o).contains 81) ho (by kernel_rfl))))
    simp [execOp, hop, go_sem, e107]
  · exact (HNEG w1 hJ.j.g).mono fun e w2 ⟨h1, h2⟩ => ⟨_, h1, rfl, JB.later hJ h2, h2⟩
set_option maxRecDepth 100000 in
theorem g6_83 (hsz : a0.tmps.size = 182) : ∀ o, (opsOf Tryz.f3 6)[83]? = some o → StepN Tryz.prog (opsOf Tryz.f3 6) 107 a0 (rgR gs gp tp tq tr ta tb tc td te tf tg th ti) (JB w0 gs gp) rgT 83 o := by
  intro o ho
  have hop : o.op = .extract (.tmp 108) 0 := atO (f := (·.op)) ho (by kernel_rfl)
  have hgd : o.guard = none := atO (f := (·.guard)) ho (by kernel_rfl)
  refine Step.val (n := 182) hsz (by kernel_rfl) fun vs w1 b hJ hD hS => ⟨by simp [Region.wanted, hgd], .string ⟨(ti : Txt).toArray⟩, w1, ?_, rfl, hJ, Below.refl _ _⟩
  have e108 := (hS.got 82 108 (atO (f := fun o => (depsN (opsOf Tryz.f3 6) 107 o).contains 82) ho (by kernel_rfl)) (by kernel_rfl) (by decide)).trans (hD 82 (depM (atO (f := fun o => (depsN (opsOf Tryz.f3 6) 107 o).contains 82) ho (by kernel_rfl))))
  simp [execOp, hop, go_sem, e108, ans2]
set_option maxRecDepth 100000 in
theorem g6_84 (hsz : a0.tmps.size = 182) : ∀ o, (opsOf Tryz.f3 6)[84]? = some o → StepN Tryz.prog (opsOf Tryz.f3 6) 107 a0 (rgR gs gp tp tq tr ta tb tc td te tf tg th ti) (JB w0 gs gp) rgT 84 o := by
  intro o ho
  have hop : o.op = .extract (.tmp 108) 1 := atO (f := (·.op)) ho (by kernel_rfl)
  have hgd : o.guard = none := atO (f := (·.guard)) ho (by kernel_rfl)
  refine Step.val (n := 182) hsz (by kernel_rfl) fun vs w1 b hJ hD hS => ⟨by simp [Region.wanted, hgd], .int .i64 0, w1, ?_, rfl, hJ, Below.refl _ _⟩
  have e108 := (hS.got 82 108 (atO (f := fun o => (depsN (opsOf Tryz.f3 6) 107 o).contains 82) ho (by kernel_rfl)) (by kernel_rfl) (by decide)).trans (hD 82 (depM (atO (f := fun o => (depsN (opsOf Tryz.f3 6) 107 o).contains 82) ho (by kernel_rfl))))
  simp [execOp, hop, go_sem, e108, ans2]
set_option maxRecDepth 100000 in
theorem g6_85 (hsz : a0.tmps.size = 182) (HO_ti : ∀ W : World, W.heap[gs]? = some (.cells #[.bool true] 27 (0, 0)) → Calls Tryz.prog 15 #[.pointer (some ⟨gs, 0, none⟩), .string ⟨(ti : Txt).toArray⟩, .int .i64 0] W (Ret W (.string ⟨(ti : Txt).toArray⟩))) : ∀ o, (opsOf Tryz.f3 6)[85]? = some o → StepN Tryz.prog (opsOf Tryz.f3 6) 107 a0 (rgR gs gp tp tq tr ta tb tc td te tf tg th ti) (JB w0 gs gp) rgT 85 o := by
  intro o ho
  have hop : o.op = .call { callee := .value (.func 15), args := #[.tmp 106, .tmp 109, .tmp 110], argTypes := #[25, 22, 29] } := atO (f := (·.op)) ho (by kernel_rfl)
  have hgd : o.guard = none := atO (f := (·.guard)) ho (by kernel_rfl)
  refine Step.call (n := 182) hsz (by kernel_rfl) fun vs w1 b hJ hD hS => ⟨by simp [Region.wanted, hgd], 15, #[.pointer (some ⟨gs, 0, none⟩), .string ⟨(ti : Txt).toArray⟩, .int .i64 0], ?_, ?_⟩
  · have e106 := (hS.got 80 106 (atO (f := fun o => (depsN (opsOf Tryz.f3 6) 107 o).contains 80) ho (by kernel_rfl)) (by kernel_rfl) (by decide)).trans (hD 80 (depM (atO (f := fun o => (depsN (opsOf Tryz.f3 6) 107 o).contains 80) ho (by kernel_rfl))))
    have e109 := (hS.got 83 109 (atO (f := fun o => (depsN (opsOf Tryz.f3 6) 107 o).contains 83) ho (by kernel_rfl)) (by kernel_rfl) (by decide)).trans (hD 83 (depM (atO (f := fun o => (depsN (opsOf Tryz.f3 6) 107 o).contains 83) ho (by kernel_rfl))))
    have e110 := (hS.got 84 110 (atO (f := fun o => (depsN (opsOf Tryz.f3 6) 107 o).contains 84) ho (by kernel_rfl)) (by kernel_rfl) (by decide)).trans (hD 84 (depM (atO (f := fun o => (depsN (opsOf Tryz.f3 6) 107 o).contains 84) ho (by kernel_rfl))))
    simp [execOp, hop, go_sem, e106, e109, e110]
  · exact (HO_ti w1 hJ.j.s).mono fun e w2 ⟨h1, h2⟩ => ⟨_, h1, rfl, JB.later hJ h2, h2⟩
set_option maxRecDepth 100000 in
theorem g6_86 (hsz : a0.tmps.size = 182) (HA7 : AddP tp ti [48]) : ∀ o, (opsOf Tryz.f3 6)[86]? = some o → StepN Tryz.prog (opsOf Tryz.f3 6) 107 a0 (rgR gs gp tp tq tr ta tb tc td te tf tg th ti) (JB w0 gs gp) rgT 86 o := by
  intro o ho
  have hop : o.op = .call { callee := .value (.tmp 104), args := #[.tmp 105, .tmp 111], argTypes := #[22, 22] } := atO (f := (·.op)) ho (by kernel_rfl)
  have hgd : o.guard = none := atO (f := (·.guard)) ho (by kernel_rfl)
  refine Step.call (n := 182) hsz (by kernel_rfl) fun vs w1 b hJ hD hS => ⟨by simp [Region.wanted, hgd], 14, #[.string ⟨(tp : Txt).toArray⟩, .string ⟨(ti : Txt).toArray⟩, .pointer (some ⟨gp, 0, none⟩)], ?_, ?_⟩
  · have e104 := (hS.got 78 104 (atO (f := fun o => (depsN (opsOf Tryz.f3 6) 107 o).contains 78) ho (by kernel_rfl)) (by kernel_rfl) (by decide)).trans (hD 78 (depM (atO (f := fun o => (depsN (opsOf Tryz.f3 6) 107 o).contains 78) ho (by kernel_rfl))))
    have e105 := (hS.got 79 105 (atO (f := fun o => (depsN (opsOf Tryz.f3 6) 107 o).contains 79) ho (by kernel_rfl)) (by kernel_rfl) (by decide)).trans (hD 79 (depM (atO (f := fun o => (depsN (opsOf Tryz.f3 6) 107 o).contains 79) ho (by kernel_rfl))))
    have e111 := (hS.got 85 111 (atO (f := fun o => (depsN (opsOf Tryz.f3 6) 107 o).contains 85) ho (by kernel_rfl)) (by kernel_rfl) (by decide)).trans (hD 85 (depM (atO (f := fun o => (depsN (opsOf Tryz.f3 6) 107 o).contains 85) ho (by kernel_rfl))))
    simp [execOp, hop, go_sem, e104, e105, e111]
  · exact (HA7 gs gp w1 hJ.j).mono fun e w2 ⟨h1, h2⟩ => ⟨_, h1, rfl, JB.later hJ h2, h2⟩
set_option maxRecDepth 100000 in
theorem g6_87 (hsz : a0.tmps.size = 182) : ∀ o, (opsOf Tryz.f3 6)[87]? = some o → StepN Tryz.prog (opsOf Tryz.f3 6) 107 a0 (rgR gs gp tp tq tr ta tb tc td te tf tg th ti) (JB w0 gs gp) rgT 87 o := by
  intro o ho
  have hop : o.op = .build 33 #[(0, .tmp 112), (1, .const (.string ⟨#[48]⟩))] := atO (f := (·.op)) ho (by kernel_rfl)
  have hgd : o.guard = none := atO (f := (·.guard)) ho (by kernel_rfl)
  refine Step.val (n := 182) hsz (by kernel_rfl) fun vs w1 b hJ hD hS => ⟨by simp [Region.wanted, hgd], .agg #[.string ⟨([48] : Txt).toArray⟩, .string ⟨([48] : Txt).toArray⟩], w1, ?_, rfl, hJ, Below.refl _ _⟩
  have e112 := (hS.got 86 112 (atO (f := fun o => (depsN (opsOf Tryz.f3 6) 107 o).contains 86) ho (by kernel_rfl)) (by kernel_rfl) (by decide)).trans (hD 86 (depM (atO (f := fun o => (depsN (opsOf Tryz.f3 6) 107 o).contains 86) ho (by kernel_rfl))))
  simp [execOp, hop, go_sem, e112]
set_option maxRecDepth 100000 in
theorem g6_88 (hsz : a0.tmps.size = 182) (h7 : a0.tmps[7]?.getD undef = .pointer (some ⟨gp, 0, none⟩)) : ∀ o, (opsOf Tryz.f3 6)[88]? = some o → StepN Tryz.prog (opsOf Tryz.f3 6) 107 a0 (rgR gs gp tp tq tr ta tb tc td te tf tg th ti) (JB w0 gs gp) rgT 88 o := by
  intro o ho
  have hop : o.op = .load 25 (.tmp 7) := atO (f := (·.op)) ho (by kernel_rfl)
  have hgd : o.guard = none := atO (f := (·.guard)) ho (by kernel_rfl)
  refine Step.val (n := 182) hsz (by kernel_rfl) fun vs w1 b hJ hD hS => ⟨by simp [Region.wanted, hgd], .pointer (some ⟨gs, 0, none⟩), w1, ?_, rfl, hJ, Below.refl _ _⟩
  have e7 := (hS.rest 7 (atO (f := fun o => (depsN (opsOf Tryz.f3 6) 107 o).all fun j => dstOf (opsOf Tryz.f3 6) j != some 7) ho (by kernel_rfl))).trans h7
  have c0 := hJ.j.c
  simp [execOp, hop, go_sem, e7, c0]
set_option maxRecDepth 100000 in
theorem g6_89 (hsz : a0.tmps.size = 182) (h0 : a0.tmps[0]?.getD undef = .string ⟨(tp : Txt).toArray⟩) : ∀ o, (opsOf Tryz.f3 6)[89]? = some o → StepN Tryz.prog (opsOf Tryz.f3 6) 107 a0 (rgR gs gp tp tq tr ta tb tc td te tf tg th ti) (JB w0 gs gp) rgT 89 o := by
  intro o ho
  have hop : o.op = .move (.tmp 0) := atO (f := (·.op)) ho (by kernel_rfl)
  have hgd : o.guard = none := atO (f := (·.guard)) ho (by kernel_rfl)
  refine Step.val (n := 182) hsz (by kernel_rfl) fun vs w1 b hJ hD hS => ⟨by simp [Region.wanted, hgd], .string ⟨(tp : Txt).toArray⟩, w1, ?_, rfl, hJ, Below.refl _ _⟩
  have e0 := (hS.rest 0 (atO (f := fun o => (depsN (opsOf Tryz.f3 6) 107 o).all fun j => dstOf (opsOf Tryz.f3 6) j != some 0) ho (by kernel_rfl))).trans h0
  simp [execOp, hop, go_sem, e0]
set_option maxRecDepth 100000 in
theorem g6_90 (hsz : a0.tmps.size = 182) (h1 : a0.tmps[1]?.getD undef = .string ⟨(tq : Txt).toArray⟩) : ∀ o, (opsOf Tryz.f3 6)[90]? = some o → StepN Tryz.prog (opsOf Tryz.f3 6) 107 a0 (rgR gs gp tp tq tr ta tb tc td te tf tg th ti) (JB w0 gs gp) rgT 90 o := by
  intro o ho
  have hop : o.op = .move (.tmp 1) := atO (f := (·.op)) ho (by kernel_rfl)
  have hgd : o.guard = none := atO (f := (·.guard)) ho (by kernel_rfl)
  refine Step.val (n := 182) hsz (by kernel_rfl) fun vs w1 b hJ hD hS => ⟨by simp [Region.wanted, hgd], .string ⟨(tq : Txt).toArray⟩, w1, ?_, rfl, hJ, Below.refl _ _⟩
  have e1 := (hS.rest 1 (atO (f := fun o => (depsN (opsOf Tryz.f3 6) 107 o).all fun j => dstOf (opsOf Tryz.f3 6) j != some 1) ho (by kernel_rfl))).trans h1
  simp [execOp, hop, go_sem, e1]
set_option maxRecDepth 100000 in
theorem g6_91 (hsz : a0.tmps.size = 182) (h2 : a0.tmps[2]?.getD undef = .string ⟨(tr : Txt).toArray⟩) : ∀ o, (opsOf Tryz.f3 6)[91]? = some o → StepN Tryz.prog (opsOf Tryz.f3 6) 107 a0 (rgR gs gp tp tq tr ta tb tc td te tf tg th ti) (JB w0 gs gp) rgT 91 o := by
  intro o ho
  have hop : o.op = .move (.tmp 2) := atO (f := (·.op)) ho (by kernel_rfl)
  have hgd : o.guard = none := atO (f := (·.guard)) ho (by kernel_rfl)
  refine Step.val (n := 182) hsz (by kernel_rfl) fun vs w1 b hJ hD hS => ⟨by simp [Region.wanted, hgd], .string ⟨(tr : Txt).toArray⟩, w1, ?_, rfl, hJ, Below.refl _ _⟩
  have e2 := (hS.rest 2 (atO (f := fun o => (depsN (opsOf Tryz.f3 6) 107 o).all fun j => dstOf (opsOf Tryz.f3 6) j != some 2) ho (by kernel_rfl))).trans h2
  simp [execOp, hop, go_sem, e2]
set_option maxRecDepth 100000 in
theorem g6_92 (hsz : a0.tmps.size = 182) : ∀ o, (opsOf Tryz.f3 6)[92]? = some o → StepN Tryz.prog (opsOf Tryz.f3 6) 107 a0 (rgR gs gp tp tq tr ta tb tc td te tf tg th ti) (JB w0 gs gp) rgT 92 o := by
  intro o ho
  have hop : o.op = .buildSlice 36 3 #[(0, .tmp 115), (1, .tmp 116), (2, .tmp 117)] := atO (f := (·.op)) ho (by kernel_rfl)
  have hgd : o.guard = none := atO (f := (·.guard)) ho (by kernel_rfl)
  refine Step.val (n := 182) hsz (by kernel_rfl) fun vs w1 b hJ hD hS => ⟨by simp [Region.wanted, hgd], .slice (some ⟨w1.heap.size, 0, none⟩) 3 3, w1.alloc (.cells #[.string ⟨(tp : Txt).toArray⟩, .string ⟨(tq : Txt).toArray⟩, .string ⟨(tr : Txt).toArray⟩] 22), ?_, ⟨_, rfl, RSp.new w1 [tp, tq, tr] _⟩, JB.alloc hJ _, (Below.refl _ _).alloc (Nat.le_refl _) _⟩
  have e115 := (hS.got 89 115 (atO (f := fun o => (depsN (opsOf Tryz.f3 6) 107 o).contains 89) ho (by kernel_rfl)) (by kernel_rfl) (by decide)).trans (hD 89 (depM (atO (f := fun o => (depsN (opsOf Tryz.f3 6) 107 o).contains 89) ho (by kernel_rfl))))
  have e116 := (hS.got 90 116 (atO (f := fun o => (depsN (opsOf Tryz.f3 6) 107 o).contains 90) ho (by kernel_rfl)) (by kernel_rfl) (by decide)).trans (hD 90 (depM (atO (f := fun o => (depsN (opsOf Tryz.f3 6) 107 o).contains 90) ho (by kernel_rfl))))
  have e117 := (hS.got 91 117 (atO (f := fun o => (depsN (opsOf Tryz.f3 6) 107 o).contains 91) ho (by kernel_rfl)) (by kernel_rfl) (by decide)).trans (hD 91 (depM (atO (f := fun o => (depsN (opsOf Tryz.f3 6) 107 o).contains 91) ho (by kernel_rfl))))
  simp [execOp, hop, go_sem, e115, e116, e117]
set_option maxRecDepth 100000 in
theorem g6_93 (hsz : a0.tmps.size = 182) (HSUM : ∀ W : World, Good W → ∀ v : Value, SlS W v [tp, tq, tr] → Calls Tryz.prog 21 #[v] W (Ret W (ans2 (tc, 0)))) : ∀ o, (opsOf Tryz.f3 6)[93]? = some o → StepN Tryz.prog (opsOf Tryz.f3 6) 107 a0 (rgR gs gp tp tq tr ta tb tc td te tf tg th ti) (JB w0 gs gp) rgT 93 o := by
  intro o ho
  have hop : o.op = .call { callee := .value (.func 21), args := #[.tmp 118], argTypes := #[36] } := atO (f := (·.op)) ho (by kernel_rfl)
  have hgd : o.guard = none := atO (f := (·.guard)) ho (by kernel_rfl)
  refine Step.call (n := 182) hsz (by kernel_rfl) fun vs w1 b hJ hD hS => ?_
  obtain ⟨g, h1, h2⟩ := hD 92 (depM (atO (f := fun o => (depsN (opsOf Tryz.f3 6) 107 o).contains 92) ho (by kernel_rfl)))
  have e118 := (hS.got 92 118 (atO (f := fun o => (depsN (opsOf Tryz.f3 6) 107 o).contains 92) ho (by kernel_rfl)) (by kernel_rfl) (by decide)).trans h1
  refine ⟨by simp [Region.wanted, hgd], 21, #[.slice (some ⟨g, 0, none⟩) 3 3], ?_, ?_⟩
  · simp [execOp, hop, go_sem, e118]
  · exact (HSUM w1 hJ.j.g _ (RSp.sl (n := 3) h2 rfl)).mono fun e w2 ⟨h1, h2⟩ => ⟨_, h1, rfl, JB.later hJ h2, h2⟩
set_option maxRecDepth 100000 in
theorem g6_94 (hsz : a0.tmps.size = 182) : ∀ o, (opsOf Tryz.f3 6)[94]? = some o → StepN Tryz.prog (opsOf Tryz.f3 6) 107 a0 (rgR gs gp tp tq tr ta tb tc td te tf tg th ti) (JB w0 gs gp) rgT 94 o := by
  intro o ho
  have hop : o.op = .extract (.tmp 119) 0 := atO (f := (·.op)) ho (by kernel_rfl)
  have hgd : o.guard = none := atO (f := (·.guard)) ho (by kernel_rfl)
  refine Step.val (n := 182) hsz (by kernel_rfl) fun vs w1 b hJ hD hS => ⟨by simp [Region.wanted, hgd], .string ⟨(tc : Txt).toArray⟩, w1, ?_, rfl, hJ, Below.refl _ _⟩
  have e119 := (hS.got 93 119 (atO (f := fun o => (depsN (opsOf Tryz.f3 6) 107 o).contains 93) ho (by kernel_rfl)) (by kernel_rfl) (by decide)).trans (hD 93 (depM (atO (f := fun o => (depsN (opsOf Tryz.f3 6) 107 o).contains 93) ho (by kernel_rfl))))
  simp [execOp, hop, go_sem, e119, ans2]
set_option maxRecDepth 100000 in
theorem g6_95 (hsz : a0.tmps.size = 182) : ∀ o, (opsOf Tryz.f3 6)[95]? = some o → StepN Tryz.prog (opsOf Tryz.f3 6) 107 a0 (rgR gs gp tp tq tr ta tb tc td te tf tg th ti) (JB w0 gs gp) rgT 95 o := by
  intro o ho
  have hop : o.op = .extract (.tmp 119) 1 := atO (f := (·.op)) ho (by kernel_rfl)
  have hgd : o.guard = none := atO (f := (·.guard)) ho (by kernel_rfl)
  refine Step.val (n := 182) hsz (by kernel_rfl) fun vs w1 b hJ hD hS => ⟨by simp [Region.wanted, hgd], .int .i64 0, w1, ?_, rfl, hJ, Below.refl _ _⟩
  have e119 := (hS.got 93 119 (atO (f := fun o => (depsN (opsOf Tryz.f3 6) 107 o).contains 93) ho (by kernel_rfl)) (by kernel_rfl) (by decide)).trans (hD 93 (depM (atO (f := fun o => (depsN (opsOf Tryz.f3 6) 107 o).contains 93) ho (by kernel_rfl))))
  simp [execOp, hop, go_sem, e119, ans2]
set_option maxRecDepth 100000 in
theorem g6_96 (hsz : a0.tmps.size = 182) (HO_tc : ∀ W : World, W.heap[gs]? = some (.cells #[.bool true] 27 (0, 0)) → Calls Tryz.prog 15 #[.pointer (some ⟨gs, 0, none⟩), .string ⟨(tc : Txt).toArray⟩, .int .i64 0] W (Ret W (.string ⟨(tc : Txt).toArray⟩))) : ∀ o, (opsOf Tryz.f3 6)[96]? = some o → StepN Tryz.prog (opsOf Tryz.f3 6) 107 a0 (rgR gs gp tp tq tr ta tb tc td te tf tg th ti) (JB w0 gs gp) rgT 96 o := by
  intro o ho
  have hop : o.op = .call { callee := .value (.func 15), args := #[.tmp 114, .tmp 120, .tmp 121], argTypes := #[25, 22, 29] } := atO (f := (·.op)) ho (by kernel_rfl)
  have hgd : o.guard = none := atO (f := (·.guard)) ho (by kernel_rfl)
  refine Step.call (n := 182) hsz (by kernel_rfl) fun vs w1 b hJ hD hS => ⟨by simp [Region.wanted, hgd], 15, #[.pointer (some ⟨gs, 0, none⟩), .string ⟨(tc : Txt).toArray⟩, .int .i64 0], ?_, ?_⟩
  · have e114 := (hS.got 88 114 (atO (f := fun o => (depsN (opsOf Tryz.f3 6) 107 o).contains 88) ho (by kernel_rfl)) (by kernel_rfl) (by decide)).trans (hD 88 (depM (atO (f := fun o => (depsN (opsOf Tryz.f3 6) 107 o).contains 88) ho (by kernel_rfl))))
    have e120 := (hS.got 94 120 (atO (f := fun o => (depsN (opsOf Tryz.f3 6) 107 o).contains 94) ho (by kernel_rfl)) (by kernel_rfl) (by decide)).trans (hD 94 (depM (atO (f := fun o => (depsN (opsOf Tryz.f3 6) 107 o).contains 94) ho (by kernel_rfl))))
    have e121 := (hS.got 95 121 (atO (f := fun o => (depsN (opsOf Tryz.f3 6) 107 o).contains 95) ho (by kernel_rfl)) (by kernel_rfl) (by decide)).trans (hD 95 (depM (atO (f := fun o => (depsN (opsOf Tryz.f3 6) 107 o).contains 95) ho (by kernel_rfl))))
    simp [execOp, hop, go_sem, e114, e120, e121]
  · exact (HO_tc w1 hJ.j.s).mono fun e w2 ⟨h1, h2⟩ => ⟨_, h1, rfl, JB.later hJ h2, h2⟩
set_option maxRecDepth 100000 in
theorem g6_97 (hsz : a0.tmps.size = 182) (h8 : a0.tmps[8]?.getD undef = .func (.func 14) #[] #[.pointer (some ⟨gp, 0, none⟩)]) : ∀ o, (opsOf Tryz.f3 6)[97]? = some o → StepN Tryz.prog (opsOf Tryz.f3 6) 107 a0 (rgR gs gp tp tq tr ta tb tc td te tf tg th ti) (JB w0 gs gp) rgT 97 o := by
  intro o ho
  have hop : o.op = .move (.tmp 8) := atO (f := (·.op)) ho (by kernel_rfl)
  have hgd : o.guard = none := atO (f := (·.guard)) ho (by kernel_rfl)
  refine Step.val (n := 182) hsz (by kernel_rfl) fun vs w1 b hJ hD hS => ⟨by simp [Region.wanted, hgd], .func (.func 14) #[] #[.pointer (some ⟨gp, 0, none⟩)], w1, ?_, rfl, hJ, Below.refl _ _⟩
  have e8 := (hS.rest 8 (atO (f := fun o => (depsN (opsOf Tryz.f3 6) 107 o).all fun j => dstOf (opsOf Tryz.f3 6) j != some 8) ho (by kernel_rfl))).trans h8
  simp [execOp, hop, go_sem, e8]
set_option maxRecDepth 100000 in
theorem g6_98 (hsz : a0.tmps.size = 182) (h0 : a0.tmps[0]?.getD undef = .string ⟨(tp : Txt).toArray⟩) : ∀ o, (opsOf Tryz.f3 6)[98]? = some o → StepN Tryz.prog (opsOf Tryz.f3 6) 107 a0 (rgR gs gp tp tq tr ta tb tc td te tf tg th ti) (JB w0 gs gp) rgT 98 o := by
  intro o ho
  have hop : o.op = .move (.tmp 0) := atO (f := (·.op)) ho (by kernel_rfl)
  have hgd : o.guard = none := atO (f := (·.guard)) ho (by kernel_rfl)
  refine Step.val (n := 182) hsz (by kernel_rfl) fun vs w1 b hJ hD hS => ⟨by simp [Region.wanted, hgd], .string ⟨(tp : Txt).toArray⟩, w1, ?_, rfl, hJ, Below.refl _ _⟩
  have e0 := (hS.rest 0 (atO (f := fun o => (depsN (opsOf Tryz.f3 6) 107 o).all fun j => dstOf (opsOf Tryz.f3 6) j != some 0) ho (by kernel_rfl))).trans h0
  simp [execOp, hop, go_sem, e0]
set_option maxRecDepth 100000 in
theorem g6_99 (hsz : a0.tmps.size = 182) (h8 : a0.tmps[8]?.getD undef = .func (.func 14) #[] #[.pointer (some ⟨gp, 0, none⟩)]) : ∀ o, (opsOf Tryz.f3 6)[99]? = some o → StepN Tryz.prog (opsOf Tryz.f3 6) 107 a0 (rgR gs gp tp tq tr ta tb tc td te tf tg th ti) (JB w0 gs gp) rgT 99 o := by
  intro o ho
  have hop : o.op = .move (.tmp 8) := atO (f := (·.op)) ho (by kernel_rfl)
  have hgd : o.guard = none := atO (f := (·.guard)) ho (by kernel_rfl)
  refine Step.val (n := 182) hsz (by kernel_rfl) fun vs w1 b hJ hD hS => ⟨by simp [Region.wanted, hgd], .func (.func 14) #[] #[.pointer (some ⟨gp, 0, none⟩)], w1, ?_, rfl, hJ, Below.refl _ _⟩
  have e8 := (hS.rest 8 (atO (f := fun o => (depsN (opsOf Tryz.f3 6) 107 o).all fun j => dstOf (opsOf Tryz.f3 6) j != some 8) ho (by kernel_rfl))).trans h8
  simp [execOp, hop, go_sem, e8]
set_option maxRecDepth 100000 in
theorem g6_100 (hsz : a0.tmps.size = 182) (h1 : a0.tmps[1]?.getD undef = .string ⟨(tq : Txt).toArray⟩) : ∀ o, (opsOf Tryz.f3 6)[100]? = some o → StepN Tryz.prog (opsOf Tryz.f3 6) 107 a0 (rgR gs gp tp tq tr ta tb tc td te tf tg th ti) (JB w0 gs gp) rgT 100 o := by
  intro o ho
  have hop : o.op = .move (.tmp 1) := atO (f := (·.op)) ho (by kernel_rfl)
  have hgd : o.guard = none := atO (f := (·.guard)) ho (by kernel_rfl)
  refine Step.val (n := 182) hsz (by kernel_rfl) fun vs w1 b hJ hD hS => ⟨by simp [Region.wanted, hgd], .string ⟨(tq : Txt).toArray⟩, w1, ?_, rfl, hJ, Below.refl _ _⟩
  have e1 := (hS.rest 1 (atO (f := fun o => (depsN (opsOf Tryz.f3 6) 107 o).all fun j => dstOf (opsOf Tryz.f3 6) j != some 1) ho (by kernel_rfl))).trans h1
  simp [execOp, hop, go_sem, e1]
set_option maxRecDepth 100000 in
theorem g6_101 (hsz : a0.tmps.size = 182) (h2 : a0.tmps[2]?.getD undef = .string ⟨(tr : Txt).toArray⟩) : ∀ o, (opsOf Tryz.f3 6)[101]? = some o → StepN Tryz.prog (opsOf Tryz.f3 6) 107 a0 (rgR gs gp tp tq tr ta tb tc td te tf tg th ti) (JB w0 gs gp) rgT 101 o := by
  intro o ho
  have hop : o.op = .move (.tmp 2) := atO (f := (·.op)) ho (by kernel_rfl)
  have hgd : o.guard = none := atO (f := (·.guard)) ho (by kernel_rfl)
  refine Step.val (n := 182) hsz (by kernel_rfl) fun vs w1 b hJ hD hS => ⟨by simp [Region.wanted, hgd], .string ⟨(tr : Txt).toArray⟩, w1, ?_, rfl, hJ, Below.refl _ _⟩
  have e2 := (hS.rest 2 (atO (f := fun o => (depsN (opsOf Tryz.f3 6) 107 o).all fun j => dstOf (opsOf Tryz.f3 6) j != some 2) ho (by kernel_rfl))).trans h2
  simp [execOp, hop, go_sem, e2]
set_option maxRecDepth 100000 in
theorem g6_102 (hsz : a0.tmps.size = 182) (HA4 : AddP tq tr tb) : ∀ o, (opsOf Tryz.f3 6)[102]? = some o → StepN Tryz.prog (opsOf Tryz.f3 6) 107 a0 (rgR gs gp tp tq tr ta tb tc td te tf tg th ti) (JB w0 gs gp) rgT 102 o := by
  intro o ho
  have hop : o.op = .call { callee := .value (.tmp 125), args := #[.tmp 126, .tmp 127], argTypes := #[22, 22] } := atO (f := (·.op)) ho (by kernel_rfl)
  have hgd : o.guard = none := atO (f := (·.guard)) ho (by kernel_rfl)
  refine Step.call (n := 182) hsz (by kernel_rfl) fun vs w1 b hJ hD hS => ⟨by simp [Region.wanted, hgd], 14, #[.string ⟨(tq : Txt).toArray⟩, .string ⟨(tr : Txt).toArray⟩, .pointer (some ⟨gp, 0, none⟩)], ?_, ?_⟩
  · have e125 := (hS.got 99 125 (atO (f := fun o => (depsN (opsOf Tryz.f3 6) 107 o).contains 99) ho (by kernel_rfl)) (by kernel_rfl) (by decide)).trans (hD 99 (depM (atO (f := fun o => (depsN (opsOf Tryz.f3 6) 107 o).contains 99) ho (by kernel_rfl))))
    have e126 := (hS.got 100 126 (atO (f := fun o => (depsN (opsOf Tryz.f3 6) 107 o).contains 100) ho (by kernel_rfl)) (by kernel_rfl) (by decide)).trans (hD 100 (depM (atO (f := fun o => (depsN (opsOf Tryz.f3 6) 107 o).contains 100) ho (by kernel_rfl))))
    have e127 := (hS.got 101 127 (atO (f := fun o => (depsN (opsOf Tryz.f3 6) 107 o).contains 101) ho (by kernel_rfl)) (by kernel_rfl) (by decide)).trans (hD 101 (depM (atO (f := fun o => (depsN (opsOf Tryz.f3 6) 107 o).contains 101) ho (by kernel_rfl))))
    simp [execOp, hop, go_sem, e125, e126, e127]
  · exact (HA4 gs gp w1 hJ.j).mono fun e w2 ⟨h1, h2⟩ => ⟨_, h1, rfl, JB.later hJ h2, h2⟩
set_option maxRecDepth 100000 in
theorem g6_103 (hsz : a0.tmps.size = 182) (HA5 : AddP tp tb tc) : ∀ o, (opsOf Tryz.f3 6)[103]? = some o → StepN Tryz.prog (opsOf Tryz.f3 6) 107 a0 (rgR gs gp tp tq tr ta tb tc td te tf tg th ti) (JB w0 gs gp) rgT 103 o := by
  intro o ho
  have hop : o.op = .call { callee := .value (.tmp 123), args := #[.tmp 124, .tmp 128], argTypes := #[22, 22] } := atO (f := (·.op)) ho (by kernel_rfl)
  have hgd : o.guard = none := atO (f := (·.guard)) ho (by kernel_rfl)
  refine Step.call (n := 182) hsz (by kernel_rfl) fun vs w1 b hJ hD hS => ⟨by simp [Region.wanted, hgd], 14, #[.string ⟨(tp : Txt).toArray⟩, .string ⟨(tb : Txt).toArray⟩, .pointer (some ⟨gp, 0, none⟩)], ?_, ?_⟩
  · have e123 := (hS.got 97 123 (atO (f := fun o => (depsN (opsOf Tryz.f3 6) 107 o).contains 97) ho (by kernel_rfl)) (by kernel_rfl) (by decide)).trans (hD 97 (depM (atO (f := fun o => (depsN (opsOf Tryz.f3 6) 107 o).contains 97) ho (by kernel_rfl))))
    have e124 := (hS.got 98 124 (atO (f := fun o => (depsN (opsOf Tryz.f3 6) 107 o).contains 98) ho (by kernel_rfl)) (by kernel_rfl) (by decide)).trans (hD 98 (depM (atO (f := fun o => (depsN (opsOf Tryz.f3 6) 107 o).contains 98) ho (by kernel_rfl))))
    have e128 := (hS.got 102 128 (atO (f := fun o => (depsN (opsOf Tryz.f3 6) 107 o).contains 102) ho (by kernel_rfl)) (by kernel_rfl) (by decide)).trans (hD 102 (depM (atO (f := fun o => (depsN (opsOf Tryz.f3 6) 107 o).contains 102) ho (by kernel_rfl))))
    simp [execOp, hop, go_sem, e123, e124, e128]
  · exact (HA5 gs gp w1 hJ.j).mono fun e w2 ⟨h1, h2⟩ => ⟨_, h1, rfl, JB.later hJ h2, h2⟩
set_option maxRecDepth 100000 in
theorem g6_104 (hsz : a0.tmps.size = 182) : ∀ o, (opsOf Tryz.f3 6)[104]? = some o → StepN Tryz.prog (opsOf Tryz.f3 6) 107 a0 (rgR gs gp tp tq tr ta tb tc td te tf tg th ti) (JB w0 gs gp) rgT 104 o := by
  intro o ho
  have hop : o.op = .build 33 #[(0, .tmp 122), (1, .tmp 129)] := atO (f := (·.op)) ho (by kernel_rfl)
  have hgd : o.guard = none := atO (f := (·.guard)) ho (by kernel_rfl)
  refine Step.val (n := 182) hsz (by kernel_rfl) fun vs w1 b hJ hD hS => ⟨by simp [Region.wanted, hgd], .agg #[.string ⟨(tc : Txt).toArray⟩, .string ⟨(tc : Txt).toArray⟩], w1, ?_, rfl, hJ, Below.refl _ _⟩
  have e122 := (hS.got 96 122 (atO (f := fun o => (depsN (opsOf Tryz.f3 6) 107 o).contains 96) ho (by kernel_rfl)) (by kernel_rfl) (by decide)).trans (hD 96 (depM (atO (f := fun o => (depsN (opsOf Tryz.f3 6) 107 o).contains 96) ho (by kernel_rfl))))
  have e129 := (hS.got 103 129 (atO (f := fun o => (depsN (opsOf Tryz.f3 6) 107 o).contains 103) ho (by kernel_rfl)) (by kernel_rfl) (by decide)).trans (hD 103 (depM (atO (f := fun o => (depsN (opsOf Tryz.f3 6) 107 o).contains 103) ho (by kernel_rfl))))
  simp [execOp, hop, go_sem, e122, e129]
set_option maxRecDepth 100000 in
theorem g6_105 (hsz : a0.tmps.size = 182) : ∀ o, (opsOf Tryz.f3 6)[105]? = some o → StepN Tryz.prog (opsOf Tryz.f3 6) 107 a0 (rgR gs gp tp tq tr ta tb tc td te tf tg th ti) (JB w0 gs gp) rgT 105 o := by
  intro o ho
  have hop : o.op = .buildSlice 37 8 #[(0, .tmp 34), (1, .tmp 43), (2, .tmp 58), (3, .tmp 73), (4, .tmp 91), (5, .tmp 103), (6, .tmp 113), (7, .tmp 130)] := atO (f := (·.op)) ho (by kernel_rfl)
  have hgd : o.guard = none := atO (f := (·.guard)) ho (by kernel_rfl)
  refine Step.val (n := 182) hsz (by kernel_rfl) fun vs w1 b hJ hD hS => ⟨by simp [Region.wanted, hgd], .slice (some ⟨w1.heap.size, 0, none⟩) 8 8, w1.alloc (.cells #[.string ⟨(ta : Txt).toArray⟩, .string ⟨(ta : Txt).toArray⟩, .string ⟨(td : Txt).toArray⟩, .string ⟨(td : Txt).toArray⟩, .string ⟨(tc : Txt).toArray⟩, .string ⟨(tc : Txt).toArray⟩, .string ⟨(tf : Txt).toArray⟩, .string ⟨(tf : Txt).toArray⟩, .string ⟨(tg : Txt).toArray⟩, .string ⟨(tg : Txt).toArray⟩, .string ⟨(tp : Txt).toArray⟩, .string ⟨(tp : Txt).toArray⟩, .string ⟨([48] : Txt).toArray⟩, .string ⟨([48] : Txt).toArray⟩, .string ⟨(tc : Txt).toArray⟩, .string ⟨(tc : Txt).toArray⟩] 33), ?_, ⟨_, rfl, hJ.j.plt, heap_alloc_new w1 _⟩, JB.alloc hJ _, (Below.refl _ _).alloc (Nat.le_refl _) _⟩
  have e34 := (hS.got 8 34 (atO (f := fun o => (depsN (opsOf Tryz.f3 6) 107 o).contains 8) ho (by kernel_rfl)) (by kernel_rfl) (by decide)).trans (hD 8 (depM (atO (f := fun o => (depsN (opsOf Tryz.f3 6) 107 o).contains 8) ho (by kernel_rfl))))
  have e43 := (hS.got 17 43 (atO (f := fun o => (depsN (opsOf Tryz.f3 6) 107 o).contains 17) ho (by kernel_rfl)) (by kernel_rfl) (by decide)).trans (hD 17 (depM (atO (f := fun o => (depsN (opsOf Tryz.f3 6) 107 o).contains 17) ho (by kernel_rfl))))
  have e58 := (hS.got 32 58 (atO (f := fun o => (depsN (opsOf Tryz.f3 6) 107 o).contains 32) ho (by kernel_rfl)) (by kernel_rfl) (by decide)).trans (hD 32 (depM (atO (f := fun o => (depsN (opsOf Tryz.f3 6) 107 o).contains 32) ho (by kernel_rfl))))
  have e73 := (hS.got 47 73 (atO (f := fun o => (depsN (opsOf Tryz.f3 6) 107 o).contains 47) ho (by kernel_rfl)) (by kernel_rfl) (by decide)).trans (hD 47 (depM (atO (f := fun o => (depsN (opsOf Tryz.f3 6) 107 o).contains 47) ho (by kernel_rfl))))
  have e91 := (hS.got 65 91 (atO (f := fun o => (depsN (opsOf Tryz.f3 6) 107 o).contains 65) ho (by kernel_rfl)) (by kernel_rfl) (by decide)).trans (hD 65 (depM (atO (f := fun o => (depsN (opsOf Tryz.f3 6) 107 o).contains 65) ho (by kernel_rfl))))
  have e103 := (hS.got 77 103 (atO (f := fun o => (depsN (opsOf Tryz.f3 6) 107 o).contains 77) ho (by kernel_rfl)) (by kernel_rfl) (by decide)).trans (hD 77 (depM (atO (f := fun o => (depsN (opsOf Tryz.f3 6) 107 o).contains 77) ho (by kernel_rfl))))
  have e113 := (hS.got 87 113 (atO (f := fun o => (depsN (opsOf Tryz.f3 6) 107 o).contains 87) ho (by kernel_rfl)) (by kernel_rfl) (by decide)).trans (hD 87 (depM (atO (f := fun o => (depsN (opsOf Tryz.f3 6) 107 o).contains 87) ho (by kernel_rfl))))
  have e130 := (hS.got 104 130 (atO (f := fun o => (depsN (opsOf Tryz.f3 6) 107 o).contains 104) ho (by kernel_rfl)) (by kernel_rfl) (by decide)).trans (hD 104 (depM (atO (f := fun o => (depsN (opsOf Tryz.f3 6) 107 o).contains 104) ho (by kernel_rfl))))
  simp [execOp, hop, go_sem, e34, e43, e58, e73, e91, e103, e113, e130]
set_option maxRecDepth 100000 in
theorem g6_106 (hsz : a0.tmps.size = 182) : ∀ o, (opsOf Tryz.f3 6)[106]? = some o → StepN Tryz.prog (opsOf Tryz.f3 6) 107 a0 (rgR gs gp tp tq tr ta tb tc td te tf tg th ti) (JB w0 gs gp) rgT 106 o := by
  intro o ho
  have hop : o.op = .assign (.tmp 131) := atO (f := (·.op)) ho (by kernel_rfl)
  have hgd : o.guard = none := atO (f := (·.guard)) ho (by kernel_rfl)
  refine Step.val (n := 182) hsz (by kernel_rfl) fun vs w1 b hJ hD hS => ?_
  obtain ⟨g, h1, h2, h3⟩ := hD 105 (depM (atO (f := fun o => (depsN (opsOf Tryz.f3 6) 107 o).contains 105) ho (by kernel_rfl)))
  have e131 := (hS.got 105 131 (atO (f := fun o => (depsN (opsOf Tryz.f3 6) 107 o).contains 105) ho (by kernel_rfl)) (by kernel_rfl) (by decide)).trans h1
  refine ⟨by simp [Region.wanted, hgd], .slice (some ⟨g, 0, none⟩) 8 8, w1, ?_, ⟨g, rfl, h2, h3⟩, hJ, Below.refl _ _⟩
  simp [execOp, hop, go_sem, e131]
theorem g6_steps (hsz : a0.tmps.size = 182) (h8 : a0.tmps[8]?.getD undef = .func (.func 14) #[] #[.pointer (some ⟨gp, 0, none⟩)]) (h0 : a0.tmps[0]?.getD undef = .string ⟨(tp : Txt).toArray⟩) (h1 : a0.tmps[1]?.getD undef = .string ⟨(tq : Txt).toArray⟩) (HA1 : AddP tp tq ta) (HA2 : AddP tq tp ta) (h9 : a0.tmps[9]?.getD undef = .func (.func 17) #[] #[.pointer (some ⟨gp, 0, none⟩)]) (HM1 : MulP tp tq td) (HM2 : MulP tq tp td) (h2 : a0.tmps[2]?.getD undef = .string ⟨(tr : Txt).toArray⟩) (HA3 : AddP ta tr tc) (HA4 : AddP tq tr tb) (HA5 : AddP tp tb tc) (HM3 : MulP td tr tf) (HM4 : MulP tq tr te) (HM5 : MulP tp te tf) (HM6 : MulP tp tb tg) (HM7 : MulP tp tr th) (HA6 : AddP td th tg) (h7 : a0.tmps[7]?.getD undef = .pointer (some ⟨gp, 0, none⟩)) (HSUB : ∀ W : World, Good W → Calls Tryz.prog 19 #[.string ⟨(ta : Txt).toArray⟩, .string ⟨(tq : Txt).toArray⟩] W (Ret W (ans2 (tp, 0)))) (HO_tp : ∀ W : World, W.heap[gs]? = some (.cells #[.bool true] 27 (0, 0)) → Calls Tryz.prog 15 #[.pointer (some ⟨gs, 0, none⟩), .string ⟨(tp : Txt).toArray⟩, .int .i64 0] W (Ret W (.string ⟨(tp : Txt).toArray⟩))) (HNEG : ∀ W : World, Good W → Calls Tryz.prog 20 #[.string ⟨(tp : Txt).toArray⟩] W (Ret W (ans2 (ti, 0)))) (HO_ti : ∀ W : World, W.heap[gs]? = some (.cells #[.bool true] 27 (0, 0)) → Calls Tryz.prog 15 #[.pointer (some ⟨gs, 0, none⟩), .string ⟨(ti : Txt).toArray⟩, .int .i64 0] W (Ret W (.string ⟨(ti : Txt).toArray⟩))) (HA7 : AddP tp ti [48]) (HSUM : ∀ W : World, Good W → ∀ v : Value, SlS W v [tp, tq, tr] → Calls Tryz.prog 21 #[v] W (Ret W (ans2 (tc, 0)))) (HO_tc : ∀ W : World, W.heap[gs]? = some (.cells #[.bool true] 27 (0, 0)) → Calls Tryz.prog 15 #[.pointer (some ⟨gs, 0, none⟩), .string ⟨(tc : Txt).toArray⟩, .int .i64 0] W (Ret W (.string ⟨(tc : Txt).toArray⟩))) : ∀ i o, i < 107 → (opsOf Tryz.f3 6)[i]? = some o → StepN Tryz.prog (opsOf Tryz.f3 6) 107 a0 (rgR gs gp tp tq tr ta tb tc td te tf tg th ti) (JB w0 gs gp) rgT i o := by
  intro i o hi ho
  match i, hi, ho with
  | 0, _, ho => exact g6_0 hsz h8 o ho
  | 1, _, ho => exact g6_1 hsz h0 o ho
  | 2, _, ho => exact g6_2 hsz h1 o ho
  | 3, _, ho => exact g6_3 hsz HA1 o ho
  | 4, _, ho => exact g6_4 hsz h8 o ho
  | 5, _, ho => exact g6_5 hsz h1 o ho
  | 6, _, ho => exact g6_6 hsz h0 o ho
  | 7, _, ho => exact g6_7 hsz HA2 o ho
  | 8, _, ho => exact g6_8 hsz o ho
  | 9, _, ho => exact g6_9 hsz h9 o ho
  | 10, _, ho => exact g6_10 hsz h0 o ho
  | 11, _, ho => exact g6_11 hsz h1 o ho
  | 12, _, ho => exact g6_12 hsz HM1 o ho
  | 13, _, ho => exact g6_13 hsz h9 o ho
  | 14, _, ho => exact g6_14 hsz h1 o ho
  | 15, _, ho => exact g6_15 hsz h0 o ho
  | 16, _, ho => exact g6_16 hsz HM2 o ho
  | 17, _, ho => exact g6_17 hsz o ho
  | 18, _, ho => exact g6_18 hsz h8 o ho
  | 19, _, ho => exact g6_19 hsz h8 o ho
  | 20, _, ho => exact g6_20 hsz h0 o ho
  | 21, _, ho => exact g6_21 hsz h1 o ho
  | 22, _, ho => exact g6_22 hsz HA1 o ho
  | 23, _, ho => exact g6_23 hsz h2 o ho
  | 24, _, ho => exact g6_24 hsz HA3 o ho
  | 25, _, ho => exact g6_25 hsz h8 o ho
  | 26, _, ho => exact g6_26 hsz h0 o ho
  | 27, _, ho => exact g6_27 hsz h8 o ho
  | 28, _, ho => exact g6_28 hsz h1 o ho
  | 29, _, ho => exact g6_29 hsz h2 o ho
  | 30, _, ho => exact g6_30 hsz HA4 o ho
  | 31, _, ho => exact g6_31 hsz HA5 o ho
  | 32, _, ho => exact g6_32 hsz o ho
  | 33, _, ho => exact g6_33 hsz h9 o ho
  | 34, _, ho => exact g6_34 hsz h9 o ho
  | 35, _, ho => exact g6_35 hsz h0 o ho
  | 36, _, ho => exact g6_36 hsz h1 o ho
  | 37, _, ho => exact g6_37 hsz HM1 o ho
  | 38, _, ho => exact g6_38 hsz h2 o ho
  | 39, _, ho => exact g6_39 hsz HM3 o ho
  | 40, _, ho => exact g6_40 hsz h9 o ho
  | 41, _, ho => exact g6_41 hsz h0 o ho
  | 42, _, ho => exact g6_42 hsz h9 o ho
  | 43, _, ho => exact g6_43 hsz h1 o ho
  | 44, _, ho => exact g6_44 hsz h2 o ho
  | 45, _, ho => exact g6_45 hsz HM4 o ho
  | 46, _, ho => exact g6_46 hsz HM5 o ho
  | 47, _, ho => exact g6_47 hsz o ho
  | 48, _, ho => exact g6_48 hsz h9 o ho
  | 49, _, ho => exact g6_49 hsz h0 o ho
  | 50, _, ho => exact g6_50 hsz h8 o ho
  | 51, _, ho => exact g6_51 hsz h1 o ho
  | 52, _, ho => exact g6_52 hsz h2 o ho
  | 53, _, ho => exact g6_53 hsz HA4 o ho
  | 54, _, ho => exact g6_54 hsz HM6 o ho
  | 55, _, ho => exact g6_55 hsz h8 o ho
  | 56, _, ho => exact g6_56 hsz h9 o ho
  | 57, _, ho => exact g6_57 hsz h0 o ho
  | 58, _, ho => exact g6_58 hsz h1 o ho
  | 59, _, ho => exact g6_59 hsz HM1 o ho
  | 60, _, ho => exact g6_60 hsz h9 o ho
  | 61, _, ho => exact g6_61 hsz h0 o ho
  | 62, _, ho => exact g6_62 hsz h2 o ho
  | 63, _, ho => exact g6_63 hsz HM7 o ho
  | 64, _, ho => exact g6_64 hsz HA6 o ho
  | 65, _, ho => exact g6_65 hsz o ho
  | 66, _, ho => exact g6_66 hsz h7 o ho
  | 67, _, ho => exact g6_67 hsz h8 o ho
  | 68, _, ho => exact g6_68 hsz h0 o ho
  | 69, _, ho => exact g6_69 hsz h1 o ho
  | 70, _, ho => exact g6_70 hsz HA1 o ho
  | 71, _, ho => exact g6_71 hsz h1 o ho
  | 72, _, ho => exact g6_72 hsz HSUB o ho
  | 73, _, ho => exact g6_73 hsz o ho
  | 74, _, ho => exact g6_74 hsz o ho
  | 75, _, ho => exact g6_75 hsz HO_tp o ho
  | 76, _, ho => exact g6_76 hsz h0 o ho
  | 77, _, ho => exact g6_77 hsz o ho
  | 78, _, ho => exact g6_78 hsz h8 o ho
  | 79, _, ho => exact g6_79 hsz h0 o ho
  | 80, _, ho => exact g6_80 hsz h7 o ho
  | 81, _, ho => exact g6_81 hsz h0 o ho
  | 82, _, ho => exact g6_82 hsz HNEG o ho
  | 83, _, ho => exact g6_83 hsz o ho
  | 84, _, ho => exact g6_84 hsz o ho
  | 85, _, ho => exact g6_85 hsz HO_ti o ho
  | 86, _, ho => exact g6_86 hsz HA7 o ho
  | 87, _, ho => exact g6_87 hsz o ho
  | 88, _, ho => exact g6_88 hsz h7 o ho
  | 89, _, ho => exact g6_89 hsz h0 o ho
  | 90, _, ho => exact g6_90 hsz h1 o ho
  | 91, _, ho => exact g6_91 hsz h2 o ho
  | 92, _, ho => exact g6_92 hsz o ho
  | 93, _, ho => exact g6_93 hsz HSUM o ho
  | 94, _, ho => exact g6_94 hsz o ho
  | 95, _, ho => exact g6_95 hsz o ho
  | 96, _, ho => exact g6_96 hsz HO_tc o ho
  | 97, _, ho => exact g6_97 hsz h8 o ho
  | 98, _, ho => exact g6_98 hsz h0 o ho
  | 99, _, ho => exact g6_99 hsz h8 o ho
  | 100, _, ho => exact g6_100 hsz h1 o ho
  | 101, _, ho => exact g6_101 hsz h2 o ho
  | 102, _, ho => exact g6_102 hsz HA4 o ho
  | 103, _, ho => exact g6_103 hsz HA5 o ho
  | 104, _, ho => exact g6_104 hsz o ho
  | 105, _, ho => exact g6_105 hsz o ho
  | 106, _, ho => exact g6_106 hsz o ho
  | _ + 107, hi, _ => exact absurd hi (by omega)
end
end Go.Proofs.Wk
