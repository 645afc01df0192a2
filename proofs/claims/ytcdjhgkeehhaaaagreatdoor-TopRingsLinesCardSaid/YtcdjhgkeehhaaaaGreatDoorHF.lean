/- THE PROGRAM's RATIONAL NUMBERS: parts, joined texts, the check. -/
import Derived.Test.YtcdjhgkeehhaaaaGreatDoorHC
import Derived.Test.YtcdjhgkeehhaaaaGreatDoorGL
import Derived.Test.YtcdjhgkeehhaaaaGreatDoorHA
namespace Go.Proofs.Wk
open Go.RowKit Mt

theorem index_slash : ∀ l : Txt, Lib.indexByte l 47 = slashI l
  | [] => rfl
  | b :: t => by
    have ih := index_slash t
    unfold Lib.indexByte
    rw [ih]
    by_cases hb : b = 47
    · subst hb
      rw [if_pos (by simp)]
      unfold slashI
      rw [show rhas (47 :: t) = true from rhas_yes [] t]
      rfl
    · have h0 : (b == 47) = false := by rw [beq_eq_false_iff_ne]; exact hb
      rw [h0, if_neg (by simp)]
      have h1 : rhas (b :: t) = rhas t := by
        unfold rhas
        rw [List.contains_cons, show ((47 : UInt8) == b) = false by rw [beq_eq_false_iff_ne]; exact fun e => hb e.symm, Bool.false_or]
      have h2 : rnum (b :: t) = b :: rnum t := by
        unfold rnum
        rw [List.takeWhile_cons, show (b != 47) = true by rw [bne_iff_ne]; exact hb, if_pos rfl]
      unfold slashI
      rw [h1, h2]
      cases rhas t
      · rfl
      · simp only [List.length_cons]
        rw [if_pos trivial, if_pos trivial, if_neg (by rw [beq_iff_eq]; omega)]; omega
theorem slash_range (l : Txt) : -1 ≤ slashI l ∧ slashI l < l.length := by
  unfold slashI
  cases h : rhas l with
  | false => simp; omega
  | true =>
    obtain ⟨-, -, e3⟩ := rden_drop h
    rw [if_pos rfl]; omega
set_option maxRecDepth 100000 in
theorem Index_c (l : Txt) (w : World) : Calls Tryz.prog 97 #[.string ⟨l.toArray⟩, .string ⟨#[47]⟩] w (Pur w (.int .i64 (slashI l))) := by
  have hi := fun W => Tryz.stringslite_IndexByte ⟨l.toArray⟩ 47 W
  rw [show Lib.indexByte (⟨l.toArray⟩ : ByteArray).data.toList (47 : Int).toNat.toUInt8 = slashI l from index_slash l] at hi
  have HI := Lib.hid hi
  clear hi
  by_cases h : l = [47]
  · subst h
    rw [show slashI [47] = 0 from by decide]
    clear HI
    go_enter Tryz.func97, Tryz.ntmps97
    go_wp2
    go_ret
    exact ⟨rfl, rfl⟩
  · have hb : (([47] : Txt) == l) = false := by rw [beq_eq_false_iff_ne]; exact fun e => h e.symm
    clear h
    generalize slashI l = i at *
    go_enter Tryz.func97, Tryz.ntmps97
    go_wp2_with fail
    refine (HI.out _).mono ?_; rintro e w1 ⟨rfl, rfl⟩
    go_wp2
    go_ret
    exact ⟨rfl, rfl⟩
set_option maxRecDepth 100000 in
theorem Cut2_c (l : Txt) (w : World) (hl : l.length ≤ 140737488355328) : Calls Tryz.prog 60 #[.string ⟨l.toArray⟩, .string ⟨#[47]⟩] w (Ret w (.tuple #[.string ⟨(rnum l).toArray⟩, .string ⟨(if rhas l then rden l else []).toArray⟩, .bool (rhas l)])) := by
  have hs := Index_c l w
  cases h : rhas l with
  | false =>
    rw [show slashI l = -1 by unfold slashI; rw [h]; rfl] at hs
    obtain ⟨e1, e2⟩ := rnum_no h
    rw [e1, if_neg (by simp)]
    have HS := Lib.hid hs
    clear hs h e1 e2
    go_enter Tryz.func60, Tryz.ntmps60
    go_wp2_with fail
    ((with_reducible refine (HS.out).mono ?_); rintro e w' ⟨rfl, rfl⟩)
    go_wp2
    go_ret3
    exact ⟨rfl, Below.refl _ _⟩
  | true =>
    rw [if_pos rfl]
    rw [show slashI l = ((rnum l).length : Int) by unfold slashI; rw [h]; rfl] at hs
    obtain ⟨e1, e2, e3⟩ := rden_drop h
    obtain ⟨n, hn⟩ : ∃ n, (rnum l).length = n := ⟨_, rfl⟩
    rw [hn] at hs e1 e2 e3
    have HS := Lib.hid hs; have E1 := Lib.hid e1; have E2 := Lib.hid e2
    clear hs h e1 e2 hn
    go_enter Tryz.func60, Tryz.ntmps60
    go_wp2_with fail
    ((with_reducible refine (HS.out).mono ?_); rintro e w' ⟨rfl, rfl⟩)
    have g1 : (n : Int) ≤ (l.length : Int) := by omega
    have g2 : (0 : Int) ≤ (n : Int) + 1 := by omega
    have g3 : (n : Int) + 1 ≤ (l.length : Int) := by omega
    have g4 : IntKind.i64.wrap ((n : Int) + 1) = (n : Int) + 1 := IntWalk.i64_in _ (by omega)
    have g5 : ((n : Int) + 1).toNat = n + 1 := by omega
    go_wp2_with fail
    go_region
    all_goals (go_wp2; go_ret3)
    all_goals
      refine ⟨?_, (Below.refl _ _).drew⟩
      rw [← E1.out, ← E2.out]
      have e6 : (l.drop (n + 1)).take (l.length - (n + 1)) = l.drop (n + 1) := List.take_of_length_le (by simp)
      conv => rhs; rw [← e6]
      rfl
set_option maxRecDepth 100000 in
theorem sCut_c (l : Txt) (w : World) (hl : l.length ≤ 140737488355328) : Calls Tryz.prog 34 #[.string ⟨l.toArray⟩, .string ⟨#[47]⟩] w (Ret w (.tuple #[.string ⟨(rnum l).toArray⟩, .string ⟨(if rhas l then rden l else []).toArray⟩, .bool (rhas l)])) := by
  have HC := Lib.hid (fun W => Cut2_c l W hl)
  have hB0 := Below.refl w.heap.size w
  clear hl
  generalize (if rhas l then rden l else []) = d at *
  generalize rnum l = n at *
  generalize rhas l = o at *
  go_enter Tryz.func34, Tryz.ntmps34
  go_wp2_with fail
  ((with_reducible refine (HC.out _).mono ?_); rintro e w1 ⟨rfl, hb1⟩)
  have hB1 := hB0.trans (hb1.mono hB0.size); clear hb1
  go_wp2
  go_ret3
  exact ⟨rfl, hB1⟩
set_option maxRecDepth 100000 in
theorem cut_c (l : Txt) (w : World) (hl : l.length ≤ 140737488355328) : Calls Tryz.prog 18 #[.string ⟨l.toArray⟩] w (Ret w (.tuple #[.string ⟨(rnum l).toArray⟩, .string ⟨(rden l).toArray⟩, .bool (rhas l)])) := by
  have hc := fun W => sCut_c l W hl
  have hB0 := Below.refl w.heap.size w
  cases h : rhas l with
  | false =>
    rw [h, if_neg (by simp)] at hc
    have HC := Lib.hid hc
    obtain ⟨-, e2⟩ := rnum_no h
    rw [e2]
    clear hc h e2 hl
    go_enter Tryz.func18, Tryz.ntmps18
    go_wp2_with fail
    ((with_reducible refine (HC.out _).mono ?_); rintro e w1 ⟨rfl, hb1⟩)
    have hB1 := hB0.trans (hb1.mono hB0.size); clear hb1
    go_wp2
    go_ret3
    exact ⟨rfl, hB1⟩
  | true =>
    rw [h, if_pos rfl] at hc
    have HC := Lib.hid hc
    clear hc h hl
    go_enter Tryz.func18, Tryz.ntmps18
    go_wp2_with fail
    ((with_reducible refine (HC.out _).mono ?_); rintro e w1 ⟨rfl, hb1⟩)
    have hB1 := hB0.trans (hb1.mono hB0.size); clear hb1
    go_wp2
    go_ret3
    exact ⟨rfl, hB1⟩
set_option maxRecDepth 100000 in
theorem joined_c (n d : Int) (w : World) (hn : lng n ≤ 1100) (hd : lng d ≤ 1100) : Calls Tryz.prog 116 #[.string ⟨(Lib.itoa n).toArray⟩, .string ⟨(Lib.itoa d).toArray⟩] w (Pur w (.string ⟨(joinT n d).toArray⟩)) := by
  have h1 := itoa_is_one (n := d)
  by_cases hd1 : d = 1
  · rw [show joinT n d = Lib.itoa n by unfold joinT; rw [if_pos hd1]]
    rw [decide_eq_true hd1] at h1
    generalize Lib.itoa n = tn at *
    generalize Lib.itoa d = td at *
    go_enter Tryz.func116, Tryz.ntmps116
    go_wp2
    go_ret
    exact ⟨rfl, rfl⟩
  · rw [show joinT n d = Lib.itoa n ++ 47 :: Lib.itoa d by unfold joinT; rw [if_neg hd1]]
    rw [decide_eq_false hd1] at h1
    have l1 := lng_itoa n
    have l2 := lng_itoa d
    have l3 : (Lib.itoa n).length ≤ 1101 := by omega
    have l4 : (Lib.itoa d).length ≤ 1101 := by omega
    clear l1 l2 hn hd hd1
    generalize Lib.itoa n = tn at *
    generalize Lib.itoa d = td at *
    go_enter Tryz.func116, Tryz.ntmps116
    go_wp2
    go_ret
    exact ⟨ret_str (by simp), rfl⟩
end Go.Proofs.Wk
/- THE PROGRAM's RATIONAL NUMBERS: sums that remember an error. -/
namespace Go.Proofs.Wk
open Go.RowKit Mt

/-- Block g holds the state: no error, or that of a number that is too large. -/
def ecode (s : Bool) : Int := if s then 0 else 11
def St (w : World) (g : Nat) (s : Bool) : Prop := w.heap[g]? = some (.cells #[.int .i64 (ecode s)] 56 (0, 0))
theorem St.lt {w : World} {g : Nat} {s : Bool} (h : St w g s) : g < w.heap.size := (Array.getElem?_eq_some_iff.1 h).1
theorem St.c0 {w : World} {g : Nat} {s : Bool} (h : St w g s) : w.cell? ⟨g, 0, none⟩ = some (.int .i64 (ecode s)) := by
  rw [cell_of_row w g 0 _ _ _ h]; rfl
theorem St.free {w : World} {g : Nat} {s : Bool} (h : St w g s) (j : Nat) : w.frozen? ⟨g, j, none⟩ = false := frozen_of_row w g j _ _ h
theorem St.set {w : World} {g : Nat} {s : Bool} (h : St w g s) (s' : Bool) {v : Value} (hv : v = .int .i64 (ecode s')) : St (w.setCell ⟨g, 0, none⟩ v) g s' := by
  subst hv
  have := heap_setCell_same w g 0 _ _ (.int .i64 (ecode s')) h
  unfold St; rw [this]; rfl
theorem St.later {w w' : World} {B g : Nat} {s : Bool} (h : St w g s) (hb : Below B w w') (hg : g < B) : St w' g s := by unfold St; rw [hb.block g hg]; exact h
theorem St.kept {w w' : World} {g : Nat} {s : Bool} {r : Option Nat} (h : St w g s) (hg : w.grownBy w' r) (hr : some g ≠ r) : St w' g s := by
  unfold St; rw [hg.block g h.lt (fun e => hr e)]; exact h
/-- A call that leaves the state s in block g, and all else as it was. -/
def Sts (w : World) (g : Nat) (s : Bool) (v : Value) (e : Ending) (w' : World) : Prop := e = .returned v ∧ St w' g s ∧ w.grownBy w' (some g)
theorem grown_of_below {w w' : World} {r : Option Nat} (h : Below w.heap.size w w') : w.grownBy w' r := ⟨h.os, h.tape, h.output, h.size, fun i hi _ => h.block i hi⟩

/-- One step: the result if it is short, else the state of an error. -/
def dk (r : Int) (s : Bool) : Int × Bool := if s = true ∧ r.natAbs < big then (r, true) else (0, false)
theorem dk_ok {r : Int} (h : r.natAbs < big) : dk r true = (r, true) := by unfold dk; rw [if_pos ⟨rfl, h⟩]
theorem dk_big {r : Int} (h : ¬ r.natAbs < big) : dk r true = (0, false) := by unfold dk; rw [if_neg (fun e => h e.2)]
theorem dk_no (r : Int) : dk r false = (0, false) := by unfold dk; rw [if_neg (by simp)]
theorem dk_lng (r : Int) (s : Bool) : (dk r s).1.natAbs < big := by
  unfold dk; split
  · rename_i h; exact h.2
  · have := one_lt_big'; simp; omega

set_option maxRecDepth 100000 in
set_option maxHeartbeats 1000000 in
theorem do_no (f : Value) (a b : Value) (g : Nat) (w : World) (hs : St w g false) : Calls Tryz.prog 35 #[.pointer (some ⟨g, 0, none⟩), f, a, b] w (Sts w g false (.string ⟨#[48]⟩)) := by
  have c0 := hs.c0
  rw [show ecode false = 11 from rfl] at c0
  have HS := Lib.hid hs
  clear hs
  go_enter Tryz.func35, Tryz.ntmps35
  go_wp2
  go_ret
  exact ⟨rfl, HS.out, gb_refl _ _⟩
set_option maxRecDepth 100000 in
set_option maxHeartbeats 1000000 in
theorem do_yesAdd (a b : Value) (r : Int) (g : Nat) (w : World) (hs : St w g true) (hf : Calls Tryz.prog 118 #[a, b] w (Ret w (ans2 (kept r)))) :
    Calls Tryz.prog 35 #[.pointer (some ⟨g, 0, none⟩), .func (.func 118) #[] #[], a, b] w (Sts w g (dk r true).2 (.string ⟨(Lib.itoa (dk r true).1).toArray⟩)) := by
  have c0 := hs.c0
  rw [show ecode true = 0 from rfl] at c0
  have HS := Lib.hid hs
  have hgl := hs.lt
  clear hs
  by_cases hb : r.natAbs < big
  · rw [dk_ok hb]
    rw [kept_lt hb] at hf
    have HF := Lib.hid hf
    clear hf hb
    go_enter Tryz.func35, Tryz.ntmps35
    go_wp2_with fail
    refine HF.out.mono ?_; rintro e w1 ⟨rfl, hb1⟩
    have h1 := HS.out.later hb1 hgl
    have c1 := h1.c0
    have f1 := h1.free 0
    have H2 := Lib.hid (h1.set true rfl)
    have HG := Lib.hid (gb_set (grown_of_below (r := some g) hb1) 0 (.int .i64 (ecode true)))
    clear h1 hb1
    go_wp2
    go_ret
    exact ⟨rfl, H2.out, HG.out⟩
  · rw [dk_big hb]
    show Calls _ _ _ _ (Sts w g false (.string ⟨(Lib.itoa 0).toArray⟩))
    rw [itoa_zero]
    rw [kept_ge (by omega)] at hf
    have HF := Lib.hid hf
    clear hf hb
    go_enter Tryz.func35, Tryz.ntmps35
    go_wp2_with fail
    refine HF.out.mono ?_; rintro e w1 ⟨rfl, hb1⟩
    have h1 := HS.out.later hb1 hgl
    have c1 := h1.c0
    have f1 := h1.free 0
    have H2 := Lib.hid (h1.set false rfl)
    have HG := Lib.hid (gb_set (grown_of_below (r := some g) hb1) 0 (.int .i64 (ecode false)))
    clear h1 hb1
    go_wp2
    go_ret
    exact ⟨rfl, H2.out, HG.out⟩
/-- One step, whatever the state. -/
theorem doAdd (a b : Value) (r : Int) (g : Nat) (s : Bool) (w : World) (hs : St w g s) (hf : s = true → Calls Tryz.prog 118 #[a, b] w (Ret w (ans2 (kept r)))) :
    Calls Tryz.prog 35 #[.pointer (some ⟨g, 0, none⟩), .func (.func 118) #[] #[], a, b] w (Sts w g (dk r s).2 (.string ⟨(Lib.itoa (dk r s).1).toArray⟩)) := by
  cases s with
  | false =>
    rw [dk_no, itoa_zero]
    exact do_no _ a b g w hs
  | true => exact do_yesAdd a b r g w hs (hf rfl)
set_option maxRecDepth 100000 in
set_option maxHeartbeats 1000000 in
theorem do_yesSub (a b : Value) (r : Int) (g : Nat) (w : World) (hs : St w g true) (hf : Calls Tryz.prog 86 #[a, b] w (Ret w (ans2 (kept r)))) :
    Calls Tryz.prog 35 #[.pointer (some ⟨g, 0, none⟩), .func (.func 86) #[] #[], a, b] w (Sts w g (dk r true).2 (.string ⟨(Lib.itoa (dk r true).1).toArray⟩)) := by
  have c0 := hs.c0
  rw [show ecode true = 0 from rfl] at c0
  have HS := Lib.hid hs
  have hgl := hs.lt
  clear hs
  by_cases hb : r.natAbs < big
  · rw [dk_ok hb]
    rw [kept_lt hb] at hf
    have HF := Lib.hid hf
    clear hf hb
    go_enter Tryz.func35, Tryz.ntmps35
    go_wp2_with fail
    refine HF.out.mono ?_; rintro e w1 ⟨rfl, hb1⟩
    have h1 := HS.out.later hb1 hgl
    have c1 := h1.c0
    have f1 := h1.free 0
    have H2 := Lib.hid (h1.set true rfl)
    have HG := Lib.hid (gb_set (grown_of_below (r := some g) hb1) 0 (.int .i64 (ecode true)))
    clear h1 hb1
    go_wp2
    go_ret
    exact ⟨rfl, H2.out, HG.out⟩
  · rw [dk_big hb]
    show Calls _ _ _ _ (Sts w g false (.string ⟨(Lib.itoa 0).toArray⟩))
    rw [itoa_zero]
    rw [kept_ge (by omega)] at hf
    have HF := Lib.hid hf
    clear hf hb
    go_enter Tryz.func35, Tryz.ntmps35
    go_wp2_with fail
    refine HF.out.mono ?_; rintro e w1 ⟨rfl, hb1⟩
    have h1 := HS.out.later hb1 hgl
    have c1 := h1.c0
    have f1 := h1.free 0
    have H2 := Lib.hid (h1.set false rfl)
    have HG := Lib.hid (gb_set (grown_of_below (r := some g) hb1) 0 (.int .i64 (ecode false)))
    clear h1 hb1
    go_wp2
    go_ret
    exact ⟨rfl, H2.out, HG.out⟩
/-- One step, whatever the state. -/
theorem doSub (a b : Value) (r : Int) (g : Nat) (s : Bool) (w : World) (hs : St w g s) (hf : s = true → Calls Tryz.prog 86 #[a, b] w (Ret w (ans2 (kept r)))) :
    Calls Tryz.prog 35 #[.pointer (some ⟨g, 0, none⟩), .func (.func 86) #[] #[], a, b] w (Sts w g (dk r s).2 (.string ⟨(Lib.itoa (dk r s).1).toArray⟩)) := by
  cases s with
  | false =>
    rw [dk_no, itoa_zero]
    exact do_no _ a b g w hs
  | true => exact do_yesSub a b r g w hs (hf rfl)
set_option maxRecDepth 100000 in
set_option maxHeartbeats 1000000 in
theorem do_yesMul (a b : Value) (r : Int) (g : Nat) (w : World) (hs : St w g true) (hf : Calls Tryz.prog 36 #[a, b] w (Ret w (ans2 (kept r)))) :
    Calls Tryz.prog 35 #[.pointer (some ⟨g, 0, none⟩), .func (.func 36) #[] #[], a, b] w (Sts w g (dk r true).2 (.string ⟨(Lib.itoa (dk r true).1).toArray⟩)) := by
  have c0 := hs.c0
  rw [show ecode true = 0 from rfl] at c0
  have HS := Lib.hid hs
  have hgl := hs.lt
  clear hs
  by_cases hb : r.natAbs < big
  · rw [dk_ok hb]
    rw [kept_lt hb] at hf
    have HF := Lib.hid hf
    clear hf hb
    go_enter Tryz.func35, Tryz.ntmps35
    go_wp2_with fail
    refine HF.out.mono ?_; rintro e w1 ⟨rfl, hb1⟩
    have h1 := HS.out.later hb1 hgl
    have c1 := h1.c0
    have f1 := h1.free 0
    have H2 := Lib.hid (h1.set true rfl)
    have HG := Lib.hid (gb_set (grown_of_below (r := some g) hb1) 0 (.int .i64 (ecode true)))
    clear h1 hb1
    go_wp2
    go_ret
    exact ⟨rfl, H2.out, HG.out⟩
  · rw [dk_big hb]
    show Calls _ _ _ _ (Sts w g false (.string ⟨(Lib.itoa 0).toArray⟩))
    rw [itoa_zero]
    rw [kept_ge (by omega)] at hf
    have HF := Lib.hid hf
    clear hf hb
    go_enter Tryz.func35, Tryz.ntmps35
    go_wp2_with fail
    refine HF.out.mono ?_; rintro e w1 ⟨rfl, hb1⟩
    have h1 := HS.out.later hb1 hgl
    have c1 := h1.c0
    have f1 := h1.free 0
    have H2 := Lib.hid (h1.set false rfl)
    have HG := Lib.hid (gb_set (grown_of_below (r := some g) hb1) 0 (.int .i64 (ecode false)))
    clear h1 hb1
    go_wp2
    go_ret
    exact ⟨rfl, H2.out, HG.out⟩
/-- One step, whatever the state. -/
theorem doMul (a b : Value) (r : Int) (g : Nat) (s : Bool) (w : World) (hs : St w g s) (hf : s = true → Calls Tryz.prog 36 #[a, b] w (Ret w (ans2 (kept r)))) :
    Calls Tryz.prog 35 #[.pointer (some ⟨g, 0, none⟩), .func (.func 36) #[] #[], a, b] w (Sts w g (dk r s).2 (.string ⟨(Lib.itoa (dk r s).1).toArray⟩)) := by
  cases s with
  | false =>
    rw [dk_no, itoa_zero]
    exact do_no _ a b g w hs
  | true => exact do_yesMul a b r g w hs (hf rfl)
set_option maxRecDepth 100000 in
set_option maxHeartbeats 1000000 in
theorem do_yesGcd (a b : Value) (r : Int) (g : Nat) (w : World) (hs : St w g true) (hf : Calls Tryz.prog 59 #[a, b] w (Ret w (ans2 (kept r)))) :
    Calls Tryz.prog 35 #[.pointer (some ⟨g, 0, none⟩), .func (.func 59) #[] #[], a, b] w (Sts w g (dk r true).2 (.string ⟨(Lib.itoa (dk r true).1).toArray⟩)) := by
  have c0 := hs.c0
  rw [show ecode true = 0 from rfl] at c0
  have HS := Lib.hid hs
  have hgl := hs.lt
  clear hs
  by_cases hb : r.natAbs < big
  · rw [dk_ok hb]
    rw [kept_lt hb] at hf
    have HF := Lib.hid hf
    clear hf hb
    go_enter Tryz.func35, Tryz.ntmps35
    go_wp2_with fail
    refine HF.out.mono ?_; rintro e w1 ⟨rfl, hb1⟩
    have h1 := HS.out.later hb1 hgl
    have c1 := h1.c0
    have f1 := h1.free 0
    have H2 := Lib.hid (h1.set true rfl)
    have HG := Lib.hid (gb_set (grown_of_below (r := some g) hb1) 0 (.int .i64 (ecode true)))
    clear h1 hb1
    go_wp2
    go_ret
    exact ⟨rfl, H2.out, HG.out⟩
  · rw [dk_big hb]
    show Calls _ _ _ _ (Sts w g false (.string ⟨(Lib.itoa 0).toArray⟩))
    rw [itoa_zero]
    rw [kept_ge (by omega)] at hf
    have HF := Lib.hid hf
    clear hf hb
    go_enter Tryz.func35, Tryz.ntmps35
    go_wp2_with fail
    refine HF.out.mono ?_; rintro e w1 ⟨rfl, hb1⟩
    have h1 := HS.out.later hb1 hgl
    have c1 := h1.c0
    have f1 := h1.free 0
    have H2 := Lib.hid (h1.set false rfl)
    have HG := Lib.hid (gb_set (grown_of_below (r := some g) hb1) 0 (.int .i64 (ecode false)))
    clear h1 hb1
    go_wp2
    go_ret
    exact ⟨rfl, H2.out, HG.out⟩
/-- One step, whatever the state. -/
theorem doGcd (a b : Value) (r : Int) (g : Nat) (s : Bool) (w : World) (hs : St w g s) (hf : s = true → Calls Tryz.prog 59 #[a, b] w (Ret w (ans2 (kept r)))) :
    Calls Tryz.prog 35 #[.pointer (some ⟨g, 0, none⟩), .func (.func 59) #[] #[], a, b] w (Sts w g (dk r s).2 (.string ⟨(Lib.itoa (dk r s).1).toArray⟩)) := by
  cases s with
  | false =>
    rw [dk_no, itoa_zero]
    exact do_no _ a b g w hs
  | true => exact do_yesGcd a b r g w hs (hf rfl)
set_option maxRecDepth 100000 in
set_option maxHeartbeats 1000000 in
theorem do_yesQuo (a b : Value) (r : Int) (g : Nat) (w : World) (hs : St w g true) (hf : Calls Tryz.prog 117 #[a, b] w (Ret w (ans2 (kept r)))) :
    Calls Tryz.prog 35 #[.pointer (some ⟨g, 0, none⟩), .func (.func 117) #[] #[], a, b] w (Sts w g (dk r true).2 (.string ⟨(Lib.itoa (dk r true).1).toArray⟩)) := by
  have c0 := hs.c0
  rw [show ecode true = 0 from rfl] at c0
  have HS := Lib.hid hs
  have hgl := hs.lt
  clear hs
  by_cases hb : r.natAbs < big
  · rw [dk_ok hb]
    rw [kept_lt hb] at hf
    have HF := Lib.hid hf
    clear hf hb
    go_enter Tryz.func35, Tryz.ntmps35
    go_wp2_with fail
    refine HF.out.mono ?_; rintro e w1 ⟨rfl, hb1⟩
    have h1 := HS.out.later hb1 hgl
    have c1 := h1.c0
    have f1 := h1.free 0
    have H2 := Lib.hid (h1.set true rfl)
    have HG := Lib.hid (gb_set (grown_of_below (r := some g) hb1) 0 (.int .i64 (ecode true)))
    clear h1 hb1
    go_wp2
    go_ret
    exact ⟨rfl, H2.out, HG.out⟩
  · rw [dk_big hb]
    show Calls _ _ _ _ (Sts w g false (.string ⟨(Lib.itoa 0).toArray⟩))
    rw [itoa_zero]
    rw [kept_ge (by omega)] at hf
    have HF := Lib.hid hf
    clear hf hb
    go_enter Tryz.func35, Tryz.ntmps35
    go_wp2_with fail
    refine HF.out.mono ?_; rintro e w1 ⟨rfl, hb1⟩
    have h1 := HS.out.later hb1 hgl
    have c1 := h1.c0
    have f1 := h1.free 0
    have H2 := Lib.hid (h1.set false rfl)
    have HG := Lib.hid (gb_set (grown_of_below (r := some g) hb1) 0 (.int .i64 (ecode false)))
    clear h1 hb1
    go_wp2
    go_ret
    exact ⟨rfl, H2.out, HG.out⟩
/-- One step, whatever the state. -/
theorem doQuo (a b : Value) (r : Int) (g : Nat) (s : Bool) (w : World) (hs : St w g s) (hf : s = true → Calls Tryz.prog 117 #[a, b] w (Ret w (ans2 (kept r)))) :
    Calls Tryz.prog 35 #[.pointer (some ⟨g, 0, none⟩), .func (.func 117) #[] #[], a, b] w (Sts w g (dk r s).2 (.string ⟨(Lib.itoa (dk r s).1).toArray⟩)) := by
  cases s with
  | false =>
    rw [dk_no, itoa_zero]
    exact do_no _ a b g w hs
  | true => exact do_yesQuo a b r g w hs (hf rfl)
end Go.Proofs.Wk
/- THE PROGRAM's RATIONAL NUMBERS: products of several factors, sums, signs, lowest terms, each with the error kept. -/
namespace Go.Proofs.Wk
open Go.RowKit Mt

/-- The variables are good, and were so ahead of block g. -/
def GoodB (g : Nat) (w : World) : Prop := ∃ W, Good W ∧ W.heap.size ≤ g ∧ Below W.heap.size W w
theorem GoodB.g {g : Nat} {w : World} (h : GoodB g w) : Good w := by obtain ⟨W, h1, -, h2⟩ := h; exact h1.later h2
theorem GoodB.kept {g : Nat} {w w' : World} (h : GoodB g w) (hg : w.grownBy w' (some g)) : GoodB g w' := by
  obtain ⟨W, h1, h2, h3⟩ := h
  exact ⟨W, h1, h2, h3.trans (gb_below hg h2 h3.size)⟩
theorem GoodB.later {g : Nat} {w w' : World} (h : GoodB g w) (hg : Below w.heap.size w w') : GoodB g w' := by
  obtain ⟨W, h1, h2, h3⟩ := h
  exact ⟨W, h1, h2, h3.trans (hg.mono h3.size)⟩
theorem RS.kept {w w' : World} {b off g : Nat} {ls : List Txt} (h : RS w b off ls) (hg : w.grownBy w' (some g)) (hne : b ≠ g) : RS w' b off ls :=
  fun j hj => hg.cell (h j hj) (by simpa using hne)
theorem Sts.ret {w w' : World} {g : Nat} {s : Bool} {v : Value} {e : Ending} (h : Sts w g s v e w') {w0 : World} (h0 : w0.grownBy w (some g)) : e = .returned v ∧ St w' g s ∧ w0.grownBy w' (some g) :=
  ⟨h.1, h.2.1, gb_trans h0 h.2.2⟩
theorem kept_mul (x a : Int) (W : World) (hG : Good W) (hx : x.natAbs < big) (ha : a.natAbs < big) : Calls Tryz.prog 36 #[.string ⟨(Lib.itoa x).toArray⟩, .string ⟨(Lib.itoa a).toArray⟩] W (Ret W (ans2 (kept (x * a)))) := by
  have := wMul_c (Lib.itoa x) (Lib.itoa a) W hG (lng_txt hx) (lng_txt ha)
  rwa [bin2_itoa _ hx ha] at this
theorem kept_add (x a : Int) (W : World) (hG : Good W) (hx : x.natAbs < big) (ha : a.natAbs < big) : Calls Tryz.prog 118 #[.string ⟨(Lib.itoa x).toArray⟩, .string ⟨(Lib.itoa a).toArray⟩] W (Ret W (ans2 (kept (x + a)))) := by
  have := wAdd_c (Lib.itoa x) (Lib.itoa a) W hG (lng_txt hx) (lng_txt ha)
  rwa [bin2_itoa _ hx ha] at this
theorem kept_sub (x a : Int) (W : World) (hG : Good W) (hx : x.natAbs < big) (ha : a.natAbs < big) : Calls Tryz.prog 86 #[.string ⟨(Lib.itoa x).toArray⟩, .string ⟨(Lib.itoa a).toArray⟩] W (Ret W (ans2 (kept (x - a)))) := by
  have := wSub_c (Lib.itoa x) (Lib.itoa a) W hG (lng_txt hx) (lng_txt ha)
  rwa [bin2_itoa _ hx ha] at this

/-- A product of several factors, step by step. -/
def mulS : List Int → Int × Bool → Int × Bool
  | [], p => p
  | a :: t, p => mulS t (dk (p.1 * a) p.2)
theorem mulS_drop {ns : List Int} {i : Nat} (h : i < ns.length) (p : Int × Bool) : mulS (ns.drop i) p = mulS (ns.drop (i + 1)) (dk (p.1 * ns[i]) p.2) := by
  rw [List.drop_eq_getElem_cons h]; rfl
set_option maxRecDepth 100000 in
set_option maxHeartbeats 1000000 in
theorem mul_c (b off c g : Nat) (s : Bool) (ns : List Int) (w : World) (hs : St w g s) (hG : GoodB g w) (hR : RS w b off (ns.map Lib.itoa)) (hbg : b ≠ g) (hn : ns.length ≤ 5) (hlen : ∀ n ∈ ns, n.natAbs < big) :
    Calls Tryz.prog 19 #[.pointer (some ⟨g, 0, none⟩), .slice (some ⟨b, off, none⟩) ns.length c] w (Sts w g (mulS ns (1, s)).2 (.string ⟨(Lib.itoa (mulS ns (1, s)).1).toArray⟩)) := by
  have HS := Lib.hid hs; have HG := Lib.hid hG; have HR := Lib.hid hR; have HL := Lib.hid hlen
  obtain ⟨n, hnn⟩ : ∃ n, ns.length = n := ⟨_, rfl⟩
  rw [hnn] at hn ⊢
  have HN := Lib.hid hnn
  clear hnn hs hG hR hlen
  go_enter Tryz.func19, Tryz.ntmps19
  go_wp2_with fail
  go_loopw [5, 13] (fun so si wr => ∃ (i : Nat) (x : Int) (t : Bool), si = .int .i64 (i : Int) ∧ so = .string ⟨(Lib.itoa x).toArray⟩ ∧ i ≤ n ∧ Hid (x.natAbs < big ∧ mulS (ns.drop i) (x, t) = mulS ns (1, s) ∧ St wr g t ∧ w.grownBy wr (some g))) (fun _ si _ => n - (intOf si).toNat)
  case atStart => exact ⟨0, 1, s, rfl, by rw [itoa_one], Nat.zero_le _, by have := one_lt_big'; simpa using this, rfl, HS.out, gb_refl _ _⟩
  case round =>
    obtain ⟨i, x, t, rfl, rfl, hi, hE⟩ := hrel
    by_cases hlt : i < n
    · have hil : i < ns.length := by rw [HN.out]; exact hlt
      have hc := (HR.out.kept hE.out.2.2.2 hbg) i (by rw [List.length_map]; exact hil)
      rw [List.getElem_map] at hc
      have hd := mulS_drop hil (x, t)
      have hll := HL.out ns[i] (List.getElem_mem hil)
      obtain ⟨m, hm⟩ : ∃ m, ns[i] = m := ⟨_, rfl⟩
      rw [hm] at hc hd hll
      have HD := Lib.hid (doMul (.string ⟨(Lib.itoa x).toArray⟩) (.string ⟨(Lib.itoa m).toArray⟩) (x * m) g t wr hE.out.2.2.1 (fun _ => kept_mul x m wr (HG.out.kept hE.out.2.2.2).g hE.out.1 hll))
      have HE2 := Lib.hid (show mulS (ns.drop (i + 1)) (dk (x * m) t) = mulS ns (1, s) from by rw [← hE.out.2.1, hd])
      have HL2 := Lib.hid (dk_lng (x * m) t)
      have HK := Lib.hid hE.out.2.2.2
      clear hm hd hll hE
      obtain ⟨⟨x2, t2⟩, hp⟩ : ∃ p, dk (x * m) t = p := ⟨_, rfl⟩
      rw [hp] at HD HE2 HL2
      clear hp
      generalize Lib.itoa m = tm at *
      go_wp2_with fail
      refine HD.out.mono ?_; rintro e w2 ⟨rfl, h2, h3⟩
      have H2 := Lib.hid h2; have H3 := Lib.hid h3
      clear h2 h3
      go_wp2
      go_roundw
      case rel => exact ⟨i + 1, x2, t2, by go_num, rfl, by omega, HL2.out, HE2.out, H2.out, gb_trans HK.out H3.out⟩
      case measure => simp [intOf]; omega
    · obtain rfl : i = n := by omega
      obtain ⟨-, h2, h3, h4⟩ := hE.out
      have HE := Lib.hid (show mulS ns (1, s) = (x, t) by rw [← h2, ← HN.out, List.drop_length]; rfl)
      clear h2 hE
      have H3 := Lib.hid h3; have H4 := Lib.hid h4
      clear h3 h4
      go_wp2
      go_ret
      show Sts _ _ _ _ _ _
      rw [HE.out]
      exact ⟨rfl, H3.out, H4.out⟩
set_option maxRecDepth 100000 in
theorem add_c (x y : Int) (g : Nat) (s : Bool) (w : World) (hs : St w g s) (hG : GoodB g w) (hx : x.natAbs < big) (hy : y.natAbs < big) :
    Calls Tryz.prog 150 #[.pointer (some ⟨g, 0, none⟩), .string ⟨(Lib.itoa x).toArray⟩, .string ⟨(Lib.itoa y).toArray⟩] w (Sts w g (dk (x + y) s).2 (.string ⟨(Lib.itoa (dk (x + y) s).1).toArray⟩)) := by
  have HD := Lib.hid (doAdd (.string ⟨(Lib.itoa x).toArray⟩) (.string ⟨(Lib.itoa y).toArray⟩) (x + y) g s w hs (fun _ => kept_add x y w hG.g hx hy))
  clear hs hG hx hy
  generalize dk (x + y) s = p at *
  generalize Lib.itoa x = tx at *
  generalize Lib.itoa y = ty at *
  go_enter Tryz.func150, Tryz.ntmps150
  go_wp2_with fail
  refine HD.out.mono ?_; rintro e w2 ⟨rfl, h2, h3⟩
  go_wp2
  go_ret
  exact ⟨rfl, h2, h3⟩
set_option maxRecDepth 100000 in
theorem sub_c (x y : Int) (g : Nat) (s : Bool) (w : World) (hs : St w g s) (hG : GoodB g w) (hx : x.natAbs < big) (hy : y.natAbs < big) :
    Calls Tryz.prog 49 #[.pointer (some ⟨g, 0, none⟩), .string ⟨(Lib.itoa x).toArray⟩, .string ⟨(Lib.itoa y).toArray⟩] w (Sts w g (dk (x - y) s).2 (.string ⟨(Lib.itoa (dk (x - y) s).1).toArray⟩)) := by
  have HD := Lib.hid (doSub (.string ⟨(Lib.itoa x).toArray⟩) (.string ⟨(Lib.itoa y).toArray⟩) (x - y) g s w hs (fun _ => kept_sub x y w hG.g hx hy))
  clear hs hG hx hy
  generalize dk (x - y) s = p at *
  generalize Lib.itoa x = tx at *
  generalize Lib.itoa y = ty at *
  go_enter Tryz.func49, Tryz.ntmps49
  go_wp2_with fail
  refine HD.out.mono ?_; rintro e w2 ⟨rfl, h2, h3⟩
  go_wp2
  go_ret
  exact ⟨rfl, h2, h3⟩
end Go.Proofs.Wk
