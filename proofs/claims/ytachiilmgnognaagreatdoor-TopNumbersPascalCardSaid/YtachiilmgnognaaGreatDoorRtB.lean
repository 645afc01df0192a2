/- THE PROGRAM's RATIONAL NUMBERS: sums that remember an error. -/
import Derived.Test.YtachiilmgnognaaGreatDoorRtA
namespace Go.Proofs.Wk
open Go.RowKit Mt

/-- Block g holds the state: no error, or that of a number that is too large. -/
def ecode (s : Bool) : Int := if s then 0 else 11
def St (w : World) (g : Nat) (s : Bool) : Prop := w.heap[g]? = some (.cells #[.int .i64 (ecode s)] 96 (0, 0))
theorem St.lt {w : World} {g : Nat} {s : Bool} (h : St w g s) : g < w.heap.size := (Array.getElem?_eq_some_iff.1 h).1
theorem St.c0 {w : World} {g : Nat} {s : Bool} (h : St w g s) : w.cell? ⟨g, 0, none⟩ = some (.int .i64 (ecode s)) := by
  rw [cell_of_row w g 0 _ _ _ h]; rfl
theorem St.free {w : World} {g : Nat} {s : Bool} (h : St w g s) (j : Nat) : w.frozen? ⟨g, j, none⟩ = false := frozen_of_row w g j _ _ h
theorem St.set {w : World} {g : Nat} {s : Bool} (h : St w g s) (s' : Bool) {v : Value} (hv : v = .int .i64 (ecode s')) : St (w.setCell ⟨g, 0, none⟩ v) g s' := by
  subst hv
  have := heap_setCell_same w g 0 _ _ (.int .i64 (ecode s')) h
  unfold St; rw [this]; rfl
theorem St.later {w w' : World} {B g : Nat} {s : Bool} (h : St w g s) (hb : Below B w w') (hg : g < B) : St w' g s := by unfold St; rw [hb.block g hg]; exact h
theorem St.kept {w w' : World} {g : Nat} {s : Bool} {r : Option Nat} (h : St w g s) (hg : w.grownBy w' r) (hr : some g ≠ r) : St w' g s := by
  unfold St; rw [hg.block g h.lt (fun e => hr e)]; exact h
/-- A call that leaves the state s in block g, and all else as it was. -/
def Sts (w : World) (g : Nat) (s : Bool) (v : Value) (e : Ending) (w' : World) : Prop := e = .returned v ∧ St w' g s ∧ w.grownBy w' (some g)
theorem grown_of_below {w w' : World} {r : Option Nat} (h : Below w.heap.size w w') : w.grownBy w' r := ⟨h.os, h.tape, h.output, h.size, fun i hi _ => h.block i hi⟩

/-- One step: the result if it is short, else the state of an error. -/
def dk (r : Int) (s : Bool) : Int × Bool := if s = true ∧ r.natAbs < big then (r, true) else (0, false)
theorem dk_ok {r : Int} (h : r.natAbs < big) : dk r true = (r, true) := by unfold dk; rw [if_pos ⟨rfl, h⟩]
theorem dk_big {r : Int} (h : ¬ r.natAbs < big) : dk r true = (0, false) := by unfold dk; rw [if_neg (fun e => h e.2)]
theorem dk_no (r : Int) : dk r false = (0, false) := by unfold dk; rw [if_neg (by simp)]
theorem dk_lng (r : Int) (s : Bool) : (dk r s).1.natAbs < big := by
  unfold dk; split
  · rename_i h; exact h.2
  · have := one_lt_big'; simp; omega

set_option maxRecDepth 100000 in
set_option maxHeartbeats 1000000 in
theorem do_no (f : Value) (a b : Value) (g : Nat) (w : World) (hs : St w g false) : Calls Tryz.prog 117 #[.pointer (some ⟨g, 0, none⟩), f, a, b] w (Sts w g false (.string ⟨#[48]⟩)) := by
  have c0 := hs.c0
  rw [show ecode false = 11 from rfl] at c0
  have HS := Lib.hid hs
  clear hs
  go_enter Tryz.func117, Tryz.ntmps117
  go_wp2
  go_ret
  exact ⟨rfl, HS.out, gb_refl _ _⟩
set_option maxRecDepth 100000 in
set_option maxHeartbeats 1000000 in
theorem do_yesAdd (a b : Value) (r : Int) (g : Nat) (w : World) (hs : St w g true) (hf : Calls Tryz.prog 119 #[a, b] w (Ret w (ans2 (kept r)))) :
    Calls Tryz.prog 117 #[.pointer (some ⟨g, 0, none⟩), .func (.func 119) #[] #[], a, b] w (Sts w g (dk r true).2 (.string ⟨(Lib.itoa (dk r true).1).toArray⟩)) := by
  have c0 := hs.c0
  rw [show ecode true = 0 from rfl] at c0
  have HS := Lib.hid hs
  have hgl := hs.lt
  clear hs
  by_cases hb : r.natAbs < big
  · rw [dk_ok hb]
    rw [kept_lt hb] at hf
    have HF := Lib.hid hf
    clear hf hb
    go_enter Tryz.func117, Tryz.ntmps117
    go_wp2_with fail
    refine HF.out.mono ?_; rintro e w1 ⟨rfl, hb1⟩
    have h1 := HS.out.later hb1 hgl
    have c1 := h1.c0
    have f1 := h1.free 0
    have H2 := Lib.hid (h1.set true rfl)
    have HG := Lib.hid (gb_set (grown_of_below (r := some g) hb1) 0 (.int .i64 (ecode true)))
    clear h1 hb1
    go_wp2
    go_ret
    exact ⟨rfl, H2.out, HG.out⟩
  · rw [dk_big hb]
    show Calls _ _ _ _ (Sts w g false (.string ⟨(Lib.itoa 0).toArray⟩))
    rw [itoa_zero]
    rw [kept_ge (by omega)] at hf
    have HF := Lib.hid hf
    clear hf hb
    go_enter Tryz.func117, Tryz.ntmps117
    go_wp2_with fail
    refine HF.out.mono ?_; rintro e w1 ⟨rfl, hb1⟩
    have h1 := HS.out.later hb1 hgl
    have c1 := h1.c0
    have f1 := h1.free 0
    have H2 := Lib.hid (h1.set false rfl)
    have HG := Lib.hid (gb_set (grown_of_below (r := some g) hb1) 0 (.int .i64 (ecode false)))
    clear h1 hb1
    go_wp2
    go_ret
    exact ⟨rfl, H2.out, HG.out⟩
/-- One step, whatever the state. -/
theorem doAdd (a b : Value) (r : Int) (g : Nat) (s : Bool) (w : World) (hs : St w g s) (hf : s = true → Calls Tryz.prog 119 #[a, b] w (Ret w (ans2 (kept r)))) :
    Calls Tryz.prog 117 #[.pointer (some ⟨g, 0, none⟩), .func (.func 119) #[] #[], a, b] w (Sts w g (dk r s).2 (.string ⟨(Lib.itoa (dk r s).1).toArray⟩)) := by
  cases s with
  | false =>
    rw [dk_no, itoa_zero]
    exact do_no _ a b g w hs
  | true => exact do_yesAdd a b r g w hs (hf rfl)
set_option maxRecDepth 100000 in
set_option maxHeartbeats 1000000 in
theorem do_yesSub (a b : Value) (r : Int) (g : Nat) (w : World) (hs : St w g true) (hf : Calls Tryz.prog 118 #[a, b] w (Ret w (ans2 (kept r)))) :
    Calls Tryz.prog 117 #[.pointer (some ⟨g, 0, none⟩), .func (.func 118) #[] #[], a, b] w (Sts w g (dk r true).2 (.string ⟨(Lib.itoa (dk r true).1).toArray⟩)) := by
  have c0 := hs.c0
  rw [show ecode true = 0 from rfl] at c0
  have HS := Lib.hid hs
  have hgl := hs.lt
  clear hs
  by_cases hb : r.natAbs < big
  · rw [dk_ok hb]
    rw [kept_lt hb] at hf
    have HF := Lib.hid hf
    clear hf hb
    go_enter Tryz.func117, Tryz.ntmps117
    go_wp2_with fail
    refine HF.out.mono ?_; rintro e w1 ⟨rfl, hb1⟩
    have h1 := HS.out.later hb1 hgl
    have c1 := h1.c0
    have f1 := h1.free 0
    have H2 := Lib.hid (h1.set true rfl)
    have HG := Lib.hid (gb_set (grown_of_below (r := some g) hb1) 0 (.int .i64 (ecode true)))
    clear h1 hb1
    go_wp2
    go_ret
    exact ⟨rfl, H2.out, HG.out⟩
  · rw [dk_big hb]
    show Calls _ _ _ _ (Sts w g false (.string ⟨(Lib.itoa 0).toArray⟩))
    rw [itoa_zero]
    rw [kept_ge (by omega)] at hf
    have HF := Lib.hid hf
    clear hf hb
    go_enter Tryz.func117, Tryz.ntmps117
    go_wp2_with fail
    refine HF.out.mono ?_; rintro e w1 ⟨rfl, hb1⟩
    have h1 := HS.out.later hb1 hgl
    have c1 := h1.c0
    have f1 := h1.free 0
    have H2 := Lib.hid (h1.set false rfl)
    have HG := Lib.hid (gb_set (grown_of_below (r := some g) hb1) 0 (.int .i64 (ecode false)))
    clear h1 hb1
    go_wp2
    go_ret
    exact ⟨rfl, H2.out, HG.out⟩
/-- One step, whatever the state. -/
theorem doSub (a b : Value) (r : Int) (g : Nat) (s : Bool) (w : World) (hs : St w g s) (hf : s = true → Calls Tryz.prog 118 #[a, b] w (Ret w (ans2 (kept r)))) :
    Calls Tryz.prog 117 #[.pointer (some ⟨g, 0, none⟩), .func (.func 118) #[] #[], a, b] w (Sts w g (dk r s).2 (.string ⟨(Lib.itoa (dk r s).1).toArray⟩)) := by
  cases s with
  | false =>
    rw [dk_no, itoa_zero]
    exact do_no _ a b g w hs
  | true => exact do_yesSub a b r g w hs (hf rfl)
set_option maxRecDepth 100000 in
set_option maxHeartbeats 1000000 in
theorem do_yesMul (a b : Value) (r : Int) (g : Nat) (w : World) (hs : St w g true) (hf : Calls Tryz.prog 55 #[a, b] w (Ret w (ans2 (kept r)))) :
    Calls Tryz.prog 117 #[.pointer (some ⟨g, 0, none⟩), .func (.func 55) #[] #[], a, b] w (Sts w g (dk r true).2 (.string ⟨(Lib.itoa (dk r true).1).toArray⟩)) := by
  have c0 := hs.c0
  rw [show ecode true = 0 from rfl] at c0
  have HS := Lib.hid hs
  have hgl := hs.lt
  clear hs
  by_cases hb : r.natAbs < big
  · rw [dk_ok hb]
    rw [kept_lt hb] at hf
    have HF := Lib.hid hf
    clear hf hb
    go_enter Tryz.func117, Tryz.ntmps117
    go_wp2_with fail
    refine HF.out.mono ?_; rintro e w1 ⟨rfl, hb1⟩
    have h1 := HS.out.later hb1 hgl
    have c1 := h1.c0
    have f1 := h1.free 0
    have H2 := Lib.hid (h1.set true rfl)
    have HG := Lib.hid (gb_set (grown_of_below (r := some g) hb1) 0 (.int .i64 (ecode true)))
    clear h1 hb1
    go_wp2
    go_ret
    exact ⟨rfl, H2.out, HG.out⟩
  · rw [dk_big hb]
    show Calls _ _ _ _ (Sts w g false (.string ⟨(Lib.itoa 0).toArray⟩))
    rw [itoa_zero]
    rw [kept_ge (by omega)] at hf
    have HF := Lib.hid hf
    clear hf hb
    go_enter Tryz.func117, Tryz.ntmps117
    go_wp2_with fail
    refine HF.out.mono ?_; rintro e w1 ⟨rfl, hb1⟩
    have h1 := HS.out.later hb1 hgl
    have c1 := h1.c0
    have f1 := h1.free 0
    have H2 := Lib.hid (h1.set false rfl)
    have HG := Lib.hid (gb_set (grown_of_below (r := some g) hb1) 0 (.int .i64 (ecode false)))
    clear h1 hb1
    go_wp2
    go_ret
    exact ⟨rfl, H2.out, HG.out⟩
/-- One step, whatever the state. -/
theorem doMul (a b : Value) (r : Int) (g : Nat) (s : Bool) (w : World) (hs : St w g s) (hf : s = true → Calls Tryz.prog 55 #[a, b] w (Ret w (ans2 (kept r)))) :
    Calls Tryz.prog 117 #[.pointer (some ⟨g, 0, none⟩), .func (.func 55) #[] #[], a, b] w (Sts w g (dk r s).2 (.string ⟨(Lib.itoa (dk r s).1).toArray⟩)) := by
  cases s with
  | false =>
    rw [dk_no, itoa_zero]
    exact do_no _ a b g w hs
  | true => exact do_yesMul a b r g w hs (hf rfl)
set_option maxRecDepth 100000 in
set_option maxHeartbeats 1000000 in
theorem do_yesGcd (a b : Value) (r : Int) (g : Nat) (w : World) (hs : St w g true) (hf : Calls Tryz.prog 103 #[a, b] w (Ret w (ans2 (kept r)))) :
    Calls Tryz.prog 117 #[.pointer (some ⟨g, 0, none⟩), .func (.func 103) #[] #[], a, b] w (Sts w g (dk r true).2 (.string ⟨(Lib.itoa (dk r true).1).toArray⟩)) := by
  have c0 := hs.c0
  rw [show ecode true = 0 from rfl] at c0
  have HS := Lib.hid hs
  have hgl := hs.lt
  clear hs
  by_cases hb : r.natAbs < big
  · rw [dk_ok hb]
    rw [kept_lt hb] at hf
    have HF := Lib.hid hf
    clear hf hb
    go_enter Tryz.func117, Tryz.ntmps117
    go_wp2_with fail
    refine HF.out.mono ?_; rintro e w1 ⟨rfl, hb1⟩
    have h1 := HS.out.later hb1 hgl
    have c1 := h1.c0
    have f1 := h1.free 0
    have H2 := Lib.hid (h1.set true rfl)
    have HG := Lib.hid (gb_set (grown_of_below (r := some g) hb1) 0 (.int .i64 (ecode true)))
    clear h1 hb1
    go_wp2
    go_ret
    exact ⟨rfl, H2.out, HG.out⟩
  · rw [dk_big hb]
    show Calls _ _ _ _ (Sts w g false (.string ⟨(Lib.itoa 0).toArray⟩))
    rw [itoa_zero]
    rw [kept_ge (by omega)] at hf
    have HF := Lib.hid hf
    clear hf hb
    go_enter Tryz.func117, Tryz.ntmps117
    go_wp2_with fail
    refine HF.out.mono ?_; rintro e w1 ⟨rfl, hb1⟩
    have h1 := HS.out.later hb1 hgl
    have c1 := h1.c0
    have f1 := h1.free 0
    have H2 := Lib.hid (h1.set false rfl)
    have HG := Lib.hid (gb_set (grown_of_below (r := some g) hb1) 0 (.int .i64 (ecode false)))
    clear h1 hb1
    go_wp2
    go_ret
    exact ⟨rfl, H2.out, HG.out⟩
/-- One step, whatever the state. -/
theorem doGcd (a b : Value) (r : Int) (g : Nat) (s : Bool) (w : World) (hs : St w g s) (hf : s = true → Calls Tryz.prog 103 #[a, b] w (Ret w (ans2 (kept r)))) :
    Calls Tryz.prog 117 #[.pointer (some ⟨g, 0, none⟩), .func (.func 103) #[] #[], a, b] w (Sts w g (dk r s).2 (.string ⟨(Lib.itoa (dk r s).1).toArray⟩)) := by
  cases s with
  | false =>
    rw [dk_no, itoa_zero]
    exact do_no _ a b g w hs
  | true => exact do_yesGcd a b r g w hs (hf rfl)
set_option maxRecDepth 100000 in
set_option maxHeartbeats 1000000 in
theorem do_yesQuo (a b : Value) (r : Int) (g : Nat) (w : World) (hs : St w g true) (hf : Calls Tryz.prog 101 #[a, b] w (Ret w (ans2 (kept r)))) :
    Calls Tryz.prog 117 #[.pointer (some ⟨g, 0, none⟩), .func (.func 101) #[] #[], a, b] w (Sts w g (dk r true).2 (.string ⟨(Lib.itoa (dk r true).1).toArray⟩)) := by
  have c0 := hs.c0
  rw [show ecode true = 0 from rfl] at c0
  have HS := Lib.hid hs
  have hgl := hs.lt
  clear hs
  by_cases hb : r.natAbs < big
  · rw [dk_ok hb]
    rw [kept_lt hb] at hf
    have HF := Lib.hid hf
    clear hf hb
    go_enter Tryz.func117, Tryz.ntmps117
    go_wp2_with fail
    refine HF.out.mono ?_; rintro e w1 ⟨rfl, hb1⟩
    have h1 := HS.out.later hb1 hgl
    have c1 := h1.c0
    have f1 := h1.free 0
    have H2 := Lib.hid (h1.set true rfl)
    have HG := Lib.hid (gb_set (grown_of_below (r := some g) hb1) 0 (.int .i64 (ecode true)))
    clear h1 hb1
    go_wp2
    go_ret
    exact ⟨rfl, H2.out, HG.out⟩
  · rw [dk_big hb]
    show Calls _ _ _ _ (Sts w g false (.string ⟨(Lib.itoa 0).toArray⟩))
    rw [itoa_zero]
    rw [kept_ge (by omega)] at hf
    have HF := Lib.hid hf
    clear hf hb
    go_enter Tryz.func117, Tryz.ntmps117
    go_wp2_with fail
    refine HF.out.mono ?_; rintro e w1 ⟨rfl, hb1⟩
    have h1 := HS.out.later hb1 hgl
    have c1 := h1.c0
    have f1 := h1.free 0
    have H2 := Lib.hid (h1.set false rfl)
    have HG := Lib.hid (gb_set (grown_of_below (r := some g) hb1) 0 (.int .i64 (ecode false)))
    clear h1 hb1
    go_wp2
    go_ret
    exact ⟨rfl, H2.out, HG.out⟩
/-- One step, whatever the state. -/
theorem doQuo (a b : Value) (r : Int) (g : Nat) (s : Bool) (w : World) (hs : St w g s) (hf : s = true → Calls Tryz.prog 101 #[a, b] w (Ret w (ans2 (kept r)))) :
    Calls Tryz.prog 117 #[.pointer (some ⟨g, 0, none⟩), .func (.func 101) #[] #[], a, b] w (Sts w g (dk r s).2 (.string ⟨(Lib.itoa (dk r s).1).toArray⟩)) := by
  cases s with
  | false =>
    rw [dk_no, itoa_zero]
    exact do_no _ a b g w hs
  | true => exact do_yesQuo a b r g w hs (hf rfl)
end Go.Proofs.Wk
