/- STRAIGHTNESS, FOR THE WALKS: points in memory; sizes of squares. -/
import Derived.Test.YtcdjhgkeehhaaaaGreatDoorKB
import Derived.Test.YtcdjhgkeehhaaaaGreatDoorHB
import Derived.Test.YtcdjhgkeehhaaaaGreatDoorNA
namespace Go.Proofs.Wk
open Go.RowKit Mt

abbrev ptC (p : St.Pt) : List Value := [.int .i64 p.x, .int .i64 p.y]
abbrev ptV (p : St.Pt) : Value := .agg #[.int .i64 p.x, .int .i64 p.y]
instance : Row St.Pt where
  enc := ptC
  k := 2
  len _ := rfl
  pos := by decide
  one a u hu := by
    simp only [ptC, List.mem_cons, List.not_mem_nil, or_false] at hu
    rcases hu with rfl | rfl <;> rfl
theorem RX.pt {w : World} {b off : Nat} {ls : List St.Pt} (h : RX w b off ls) {i : Nat} (hi : i < ls.length) :
    w.cell? ⟨b, off + i * 2, none⟩ = some (.int .i64 (St.at_ ls i).x) ∧ w.cell? ⟨b, off + i * 2 + 1, none⟩ = some (.int .i64 (St.at_ ls i).y) := by
  rw [St.at_get hi]
  exact ⟨h i hi 0 (by decide), h i hi 1 (by decide)⟩
/-- A row of indices. -/
instance : Row Nat where
  enc n := [.int .i64 (n : Int)]
  k := 1
  len _ := rfl
  pos := by decide
  one a u hu := by
    obtain rfl := List.mem_singleton.1 hu
    rfl
theorem RX.nat {w : World} {b off : Nat} {ls : List Nat} (h : RX w b off ls) {i : Nat} (hi : i < ls.length) : w.cell? ⟨b, off + i, none⟩ = some (.int .i64 (ls[i] : Int)) := by
  have := h i hi 0 (by decide)
  rw [show Row.k Nat = 1 from rfl, Nat.mul_one, Nat.add_zero] at this
  exact this
/-- A point that lies at an address. -/
structure PtAt (w : World) (b o : Nat) (p : St.Pt) : Prop where
  c0 : w.cell? ⟨b, o, none⟩ = some (.int .i64 p.x)
  c1 : w.cell? ⟨b, o + 1, none⟩ = some (.int .i64 p.y)
theorem PtAt.lt {w : World} {b o : Nat} {p : St.Pt} (h : PtAt w b o p) : b < w.heap.size := World.block_lt_of_cell? w _ h.c0
theorem PtAt.later {w w' : World} {b o : Nat} {p : St.Pt} (h : PtAt w b o p) (hb : Below w.heap.size w w') : PtAt w' b o p :=
  ⟨by rw [hb.cell (p := ⟨b, o, none⟩) h.lt]; exact h.c0, by rw [hb.cell (p := ⟨b, o + 1, none⟩) h.lt]; exact h.c1⟩
theorem PtAt.drew {w : World} {b o : Nat} {p : St.Pt} (h : PtAt w b o p) : PtAt w.drew b o p := ⟨h.c0, h.c1⟩
theorem PtAt.new (w : World) (p : St.Pt) (t : TypeId) : PtAt (w.alloc (.cells #[.int .i64 p.x, .int .i64 p.y] t)) w.heap.size 0 p :=
  ⟨by rw [cell_of_row _ _ _ _ _ _ (heap_alloc_new w _)]; rfl, by rw [cell_of_row _ _ _ _ _ _ (heap_alloc_new w _)]; rfl⟩
theorem below_al (w : World) (o : Obj) : Below w.heap.size w (w.alloc o) := (Below.refl _ _).alloc (Nat.le_refl _) _
theorem lng_bd {n : Int} {k : Nat} (hk : 0 < k) (h : n.natAbs < 10 ^ k) : lng n ≤ k := (lng_le n hk).2 h
/-- The sizes of a squared width. -/
theorem wq_szQ {n : Int} {a b : St.Pt} (hn : -400000000000 ≤ n ∧ n ≤ 400000000000) (hf : St.far a b ≤ 80000000000) (h : a ≠ b) : szQ (St.wq n a b) 24 := by
  have hp := St.far_pos h
  unfold St.wq
  refine szQ_divInt (lng_bd (by decide) ?_) (lng_bd (by decide) ?_) (by omega)
  · have := St.mul_bd (x := n) (y := n) (k := 400000000000) (m := 400000000000) (by omega) (by omega)
    have e : (400000000000 * 400000000000 : Nat) < 10 ^ 24 := by decide
    omega
  · have e : (80000000000 : Nat) < 10 ^ 24 := by decide
    omega
theorem divInt_sq {n f : Int} : Rat.divInt n f * (n : Rat) = Rat.divInt (n * n) f := by
  have e : Rat.divInt n 1 = (n : Rat) := by
    have := St.divInt_mul (n := n) (f := 1) (by decide)
    rw [show (((1 : Int)) : Rat) = 1 from rfl, Rat.mul_one] at this
    exact this
  rw [← e, Rat.divInt_mul_divInt, Int.mul_one]
/-- The width's square, as the program reckons it. -/
theorem wq_made {n : Int} {a b : St.Pt} : Rat.divInt n (St.far a b) * (n : Rat) = St.wq n a b := divInt_sq
end Go.Proofs.Wk
/- STRAIGHTNESS: the check of points, in the program and in the reference. -/
namespace Go.Proofs.Wk
open Go.RowKit Mt

def inC (n : Int) : Bool := decide (-100000 ≤ n ∧ n ≤ 100000)
theorem inB_eq (p : St.Pt) : St.inB p = (inC p.x && inC p.y) := by
  unfold St.inB inC
  rw [Bool.eq_iff_iff]
  simp only [Bool.and_eq_true, decide_eq_true_eq]
  unfold St.InP
  constructor
  · rintro ⟨a, b, c, d⟩; exact ⟨⟨a, b⟩, c, d⟩
  · rintro ⟨⟨a, b⟩, c, d⟩; exact ⟨a, b, c, d⟩
theorem within_c (n : Int) (w : World) : Calls Tryz.prog 88 #[.int .i64 n] w (Pur w (.bool (inC n))) := by
  unfold inC
  rcases (by omega : n < -100000 ∨ (-100000 ≤ n ∧ n ≤ 100000) ∨ 100000 < n) with h | ⟨h, h'⟩ | h
  · rw [decide_eq_false (by omega)]
    go_enter Tryz.func88, Tryz.ntmps88; go_wp2; go_ret; refine ⟨ret_bool ?_, rfl⟩; first | rfl | (simp; done) | (simp; omega)
  · rw [decide_eq_true (by omega)]
    go_enter Tryz.func88, Tryz.ntmps88; go_wp2; go_ret; refine ⟨ret_bool ?_, rfl⟩; first | rfl | (simp; done) | (simp; omega)
  · rw [decide_eq_false (by omega)]
    go_enter Tryz.func88, Tryz.ntmps88; go_wp2; go_ret; refine ⟨ret_bool ?_, rfl⟩; first | rfl | (simp; done) | (simp; omega)
set_option maxRecDepth 100000 in
set_option maxHeartbeats 1000000 in
theorem flat_c (p : St.Pt) (w : World) : Calls Tryz.prog 51 #[ptV p] w (Ret w (.bool (St.inB p))) := by
  rw [inB_eq]
  obtain ⟨x, y⟩ := p
  have HX := Lib.hid (fun W => within_c x W)
  have HY := Lib.hid (fun W => within_c y W)
  have hb := below_al w (.cells #[.int .i64 x, .int .i64 y] 24)
  generalize inC x = bx at *
  generalize inC y = by_ at *
  cases bx with
  | false =>
    go_enter Tryz.func51, Tryz.ntmps51
    go_wp2_with fail
    ((with_reducible refine (HX.out _).mono ?_); rintro e w' ⟨rfl, rfl⟩)
    go_wp2
    go_ret
    exact ⟨rfl, hb⟩
  | true =>
    go_enter Tryz.func51, Tryz.ntmps51
    go_wp2_with fail
    ((with_reducible refine (HX.out _).mono ?_); rintro e w' ⟨rfl, rfl⟩)
    go_wp2_with fail
    ((with_reducible refine (HY.out _).mono ?_); rintro e w' ⟨rfl, rfl⟩)
    go_wp2
    go_ret
    exact ⟨ret_bool (by simp), hb⟩
theorem _root_.Go.RowKit.Below.nx {w w1 w2 : World} (h : Below w.heap.size w w1) (k : Below w1.heap.size w1 w2) : Below w.heap.size w w2 := h.trans (k.mono h.size)
def allE (ls : List St.Pt) : Int := if ls.all St.inB = true then 0 else 2
theorem allE_bad {ls : List St.Pt} {i : Nat} (hi : i < ls.length) (h : St.inB (St.at_ ls i) = false) : allE ls = 2 := by
  unfold allE
  rw [if_neg]
  intro q
  have := List.all_eq_true.1 q _ (St.at_mem hi)
  rw [h] at this; cases this
theorem allE_step {ls : List St.Pt} {i : Nat} (hi : i < ls.length) (h : (ls.take i).all St.inB = true) (h2 : St.inB (St.at_ ls i) = true) : (ls.take (i + 1)).all St.inB = true := by
  rw [List.take_succ_eq_append_getElem hi, List.all_append, h, ← St.at_get hi]
  simp [h2]
set_option maxRecDepth 100000 in
set_option maxHeartbeats 1000000 in
theorem vall_c {v : Value} (ls : List St.Pt) (w : World) (S : SlX w v ls) (hln : ls.length ≤ 140737488355328) :
    Calls Tryz.prog 87 #[.func (.func 51) #[] #[], v] w (Ret w (.int .i64 (allE ls))) := by
  refine S.cases _ ?_ ?_
  · rintro a cap rfl rfl
    go_enter Tryz.func87, Tryz.ntmps87
    go_wp2_with fail
    refine wp_loop_rounds 1 ?_
    rw [rounds_succ]
    go_wp2
    go_ret
    exact ⟨rfl, Below.refl _ _⟩
  rintro b off cap rfl hp hR hb
  have HBAD := Lib.hid (fun i hi => allE_bad (ls := ls) (i := i) hi)
  have HOK := Lib.hid (show ls.all St.inB = true → allE ls = 0 from fun h => by unfold allE; rw [if_pos h])
  have HR := Lib.hid hR
  generalize allE ls = E at *
  clear hR
  go_enter Tryz.func87, Tryz.ntmps87
  go_wp2_with fail
  go_loopw [9] (fun si wr => ∃ i : Nat, si = .int .i64 (i : Int) ∧ i ≤ ls.length ∧ Hid ((ls.take i).all St.inB = true) ∧ Below w.heap.size w wr) (fun si _ => ls.length - (intOf si).toNat)
  case atStart => exact ⟨0, rfl, Nat.zero_le _, rfl, Below.refl _ _⟩
  case round =>
    obtain ⟨i, rfl, hi, ha, hB⟩ := hrel
    by_cases hlt : i < ls.length
    · obtain ⟨k0, k1⟩ := (HR.out.later hB hb).pt hlt
      have HF := Lib.hid (fun W => flat_c (St.at_ ls i) W)
      have hbad := HBAD.out i hlt
      have hstep := allE_step hlt ha.out
      have hA := hB.nx (below_al wr (.cells #[.int .i64 (St.at_ ls i).x, .int .i64 (St.at_ ls i).y] 24))
      generalize St.at_ ls i = p at *
      obtain ⟨x, y⟩ := p
      simp only at k0 k1 hA
      cases hq : St.inB ⟨x, y⟩ with
      | false =>
        obtain rfl : E = 2 := hbad hq
        rw [hq] at HF
        clear hbad hstep hq HBAD HOK
        go_wp2_with fail
        ((with_reducible refine (HF.out _).mono ?_); rintro e w1 ⟨rfl, hb1⟩)
        go_wp2
        go_ret
        exact ⟨rfl, hA.nx hb1⟩
      | true =>
        have HS := Lib.hid (hstep hq)
        rw [hq] at HF
        clear hbad hstep hq
        go_wp2_with fail
        ((with_reducible refine (HF.out _).mono ?_); rintro e w1 ⟨rfl, hb1⟩)
        go_wp2
        go_roundw
        case rel => exact ⟨i + 1, by go_num, by omega, HS.out, hA.nx hb1⟩
        case measure => simp [intOf]; omega
    · obtain rfl : i = ls.length := by omega
      have h0 := ha.out
      rw [List.take_length] at h0
      obtain rfl : E = 0 := HOK.out h0
      clear ha h0 HBAD HOK
      go_wp2
      go_ret
      exact ⟨rfl, hB⟩
theorem chkP_long {ls : List St.Pt} (h : 64 < ls.length) : St.chkP ls = 5 := by unfold St.chkP; rw [if_pos h]
theorem chkP_all {ls : List St.Pt} (h : ¬ 64 < ls.length) : St.chkP ls = allE ls := by unfold St.chkP allE; rw [if_neg h]
theorem SlX.len {w : World} {v : Value} {ls : List St.Pt} (S : SlX w v ls) : ∃ a cap, v = .slice a ls.length cap := by
  rcases S with ⟨a, cap, rfl, rfl⟩ | ⟨b, off, cap, rfl, -, -⟩
  · exact ⟨a, cap, rfl⟩
  · exact ⟨_, cap, rfl⟩
set_option maxRecDepth 100000 in
set_option maxHeartbeats 1000000 in
theorem vCheck_c {v : Value} (ls : List St.Pt) (w : World) (S : SlX w v ls) (hln : ls.length ≤ 140737488355328) : Calls Tryz.prog 24 #[v] w (Ret w (.int .i64 (St.chkP ls))) := by
  have HK := Lib.hid (show Calls Tryz.prog 50 #[v, .func (.func 51) #[] #[]] w (Ret w (.int .i64 (St.chkP ls))) by
    have HA := Lib.hid (vall_c ls w S hln)
    obtain ⟨a, cap, rfl⟩ := S.len
    by_cases h : 64 < ls.length
    · rw [chkP_long h]
      go_enter Tryz.func50, Tryz.ntmps50
      go_wp2
      go_ret
      exact ⟨rfl, Below.refl _ _⟩
    · rw [chkP_all h]
      go_enter Tryz.func50, Tryz.ntmps50
      go_wp2_with fail
      ((with_reducible refine (HA.out).mono ?_); rintro e w1 ⟨rfl, hb1⟩)
      go_wp2
      go_ret
      exact ⟨rfl, hb1⟩)
  go_enter Tryz.func24, Tryz.ntmps24
  go_wp2_with fail
  ((with_reducible refine (HK.out).mono ?_); rintro e w1 ⟨rfl, hb1⟩)
  go_wp2
  go_ret
  exact ⟨rfl, hb1⟩
theorem givP_chk {ls : List St.Pt} (h : St.chkP ls ≠ 0) : St.givP ls = St.chkP ls := by unfold St.givP; rw [if_neg h]
theorem givP_none {ls : List St.Pt} (h : St.chkP ls = 0) (h0 : ls.length = 0) : St.givP ls = 13 := by unfold St.givP; rw [if_pos h, if_pos h0]
theorem givP_ok {ls : List St.Pt} (h : St.chkP ls = 0) (h0 : ls.length ≠ 0) : St.givP ls = 0 := by unfold St.givP; rw [if_pos h, if_neg h0]
set_option maxRecDepth 100000 in
set_option maxHeartbeats 1000000 in
theorem given_c {v : Value} (ls : List St.Pt) (w : World) (S : SlX w v ls) (hln : ls.length ≤ 140737488355328) : Calls Tryz.prog 13 #[v] w (Ret w (.int .i64 (St.givP ls))) := by
  have HK := Lib.hid (vCheck_c ls w S hln)
  have g1 := @givP_chk ls
  have g2 := @givP_none ls
  have g3 := @givP_ok ls
  obtain ⟨a, cap, rfl⟩ := S.len
  generalize St.givP ls = E at *
  generalize St.chkP ls = c at *
  clear S hln
  generalize ls.length = n at *
  by_cases hc : c = 0
  · replace g2 := g2 hc
    replace g3 := g3 hc
    subst hc
    by_cases h0 : n = 0
    · obtain rfl := g2 h0
      clear g1 g2 g3
      subst h0
      go_enter Tryz.func13, Tryz.ntmps13
      go_wp2_with fail
      ((with_reducible refine (HK.out).mono ?_); rintro e w1 ⟨rfl, hb1⟩)
      go_wp2
      go_ret
      exact ⟨rfl, hb1⟩
    · obtain rfl := g3 h0
      have z : ((n : Int) == 0) = false := beq_eq_false_iff_ne.2 (by omega)
      clear g1 g2 g3
      go_enter Tryz.func13, Tryz.ntmps13
      go_wp2_with fail
      ((with_reducible refine (HK.out).mono ?_); rintro e w1 ⟨rfl, hb1⟩)
      go_wp2
      go_ret
      exact ⟨rfl, hb1⟩
  · obtain rfl := g1 hc
    have z : (E != 0) = true := bne_iff_ne.2 hc
    clear g1 g2 g3 hc
    go_enter Tryz.func13, Tryz.ntmps13
    go_wp2_with fail
    ((with_reducible refine (HK.out).mono ?_); rintro e w1 ⟨rfl, hb1⟩)
    go_wp2
    go_ret
    exact ⟨rfl, hb1⟩
end Go.Proofs.Wk
