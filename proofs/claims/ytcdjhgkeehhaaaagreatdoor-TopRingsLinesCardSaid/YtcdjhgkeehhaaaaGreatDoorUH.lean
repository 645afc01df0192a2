/- RINGS: the law's points; slices.ContainsFunc with the law's closure. -/
import Derived.Test.YtcdjhgkeehhaaaaGreatDoorOF
import Derived.Test.YtcdjhgkeehhaaaaGreatDoorOA
import Derived.Test.YtcdjhgkeehhaaaaGreatDoorNA
import Derived.Test.YtcdjhgkeehhaaaaGreatDoorUG
import Derived.Test.YtcdjhgkeehhaaaaGreatDoorNF
import Derived.Deep.Cut
namespace Go.Proofs.Wk
open Go.RowKit Mt

/-- A point of the play. -/
def inPl (p : St.Pt) : Bool := decide (-9000 ≤ p.x ∧ p.x ≤ 9000 ∧ -9000 ≤ p.y ∧ p.y ≤ 9000)
def outPl (p : St.Pt) : Bool := !inPl p
theorem inPl_is {p : St.Pt} : inPl p = true ↔ (-9000 ≤ p.x ∧ p.x ≤ 9000 ∧ -9000 ≤ p.y ∧ p.y ≤ 9000) := by
  unfold inPl; rw [decide_eq_true_eq]
theorem outPl_no {ls : List St.Pt} (h : ls.any outPl = false) : ∀ p ∈ ls, inPl p = true := by
  intro p hp
  have := List.any_eq_false.1 h p hp
  unfold outPl at this
  simpa using this
def plOK (ls : List St.Pt) : Bool := decide (0 < ls.length ∧ ls.length ≤ 8) && !ls.any outPl
theorem plOK_is {ls : List St.Pt} (h : plOK ls = true) : 0 < ls.length ∧ ls.length ≤ 8 ∧ ∀ p ∈ ls, inPl p = true := by
  unfold plOK at h
  rw [Bool.and_eq_true, decide_eq_true_eq] at h
  exact ⟨h.1.1, h.1.2, outPl_no (by simpa using h.2)⟩
set_option maxRecDepth 100000 in
set_option maxHeartbeats 1000000 in
theorem outPl_c (p : St.Pt) (w : World) : Calls Tryz.prog 11 #[ptV p] w (Ret w (.bool (outPl p))) := by
  obtain ⟨x, y⟩ := p
  unfold outPl inPl
  have hb := below_al w (.cells #[.int .i64 x, .int .i64 y] 24)
  rcases (by omega : x < -9000 ∨ (-9000 ≤ x ∧ 9000 < x) ∨ ((-9000 ≤ x ∧ x ≤ 9000) ∧ y < -9000) ∨ ((-9000 ≤ x ∧ x ≤ 9000) ∧ (-9000 ≤ y ∧ 9000 < y)) ∨ ((-9000 ≤ x ∧ x ≤ 9000) ∧ (-9000 ≤ y ∧ y ≤ 9000))) with h | ⟨h, h2⟩ | ⟨⟨h, h2⟩, h3⟩ | ⟨⟨h, h2⟩, h3, h4⟩ | ⟨⟨h, h2⟩, h3, h4⟩
  · rw [decide_eq_false (by simp only; omega)]
    go_enter Tryz.func11, Tryz.ntmps11; go_wp2; go_ret; refine ⟨ret_bool ?_, hb⟩; first | rfl | (simp; done) | (simp; omega)
  · rw [decide_eq_false (by simp only; omega)]
    go_enter Tryz.func11, Tryz.ntmps11; go_wp2; go_ret; refine ⟨ret_bool ?_, hb⟩; first | rfl | (simp; done) | (simp; omega)
  · rw [decide_eq_false (by simp only; omega)]
    go_enter Tryz.func11, Tryz.ntmps11; go_wp2; go_ret; refine ⟨ret_bool ?_, hb⟩; first | rfl | (simp; done) | (simp; omega)
  · rw [decide_eq_false (by simp only; omega)]
    go_enter Tryz.func11, Tryz.ntmps11; go_wp2; go_ret; refine ⟨ret_bool ?_, hb⟩; first | rfl | (simp; done) | (simp; omega)
  · rw [decide_eq_true (by simp only; omega)]
    go_enter Tryz.func11, Tryz.ntmps11; go_wp2; go_ret; refine ⟨ret_bool ?_, hb⟩; first | rfl | (simp; done) | (simp; omega)
def IxL (w : World) (B : Bool) (e : Ending) (w' : World) : Prop := ∃ n : Int, e = .returned (.int .i64 n) ∧ decide (0 ≤ n) = B ∧ Below w.heap.size w w'
theorem any_stepL {ls : List St.Pt} {P : St.Pt → Bool} {i : Nat} (hi : i < ls.length) (h : (ls.take i).any P = false) (h2 : P (St.at_ ls i) = false) : (ls.take (i + 1)).any P = false := by
  rw [List.take_succ_eq_append_getElem hi, List.any_append, h, ← St.at_get hi]
  simp [h2]
theorem any_yesL {ls : List St.Pt} {P : St.Pt → Bool} {i : Nat} (hi : i < ls.length) (h2 : P (St.at_ ls i) = true) : ls.any P = true := List.any_eq_true.2 ⟨_, St.at_mem hi, h2⟩
set_option maxRecDepth 100000 in
set_option maxHeartbeats 1000000 in
theorem ixL_c {v : Value} (ls : List St.Pt) (w : World) (S : SlX w v ls) (hln : ls.length ≤ 140737488355328) :
    Calls Tryz.prog 21 #[v, .func (.func 11) #[] #[]] w (IxL w (ls.any outPl)) := by
  have HF0 := Lib.hid (fun p W => outPl_c p W)
  refine S.cases _ ?_ ?_
  · rintro a cap rfl rfl
    clear HF0
    go_enter Tryz.func21, Tryz.ntmps21
    go_wp2_with fail
    refine wp_loop_rounds 1 ?_
    rw [rounds_succ]
    go_wp2
    go_ret
    exact ⟨_, rfl, rfl, Below.refl _ _⟩
  rintro b off cap rfl hp hR hb
  have HBAD := Lib.hid (fun i hi h => any_yesL (ls := ls) (P := outPl) (i := i) hi h)
  have HR := Lib.hid (fun (W : World) (h : Below w.heap.size w W) (k : Nat) (hk : k < ls.length) => (hR.later h hb).ptAt hk)
  have HF := Lib.hid (fun i => HF0.out (St.at_ ls i))
  have HFIN := Lib.hid (show (ls.take ls.length).any outPl = false → ls.any outPl = false from fun h => by rwa [List.take_length] at h)
  generalize ls.any outPl = B at *
  clear hR HF0
  go_enter Tryz.func21, Tryz.ntmps21
  go_wp2_with fail
  go_loopw [8] (fun si wr => ∃ i : Nat, si = .int .i64 (i : Int) ∧ i ≤ ls.length ∧ Hid ((ls.take i).any outPl = false) ∧ Below w.heap.size w wr) (fun si _ => ls.length - (intOf si).toNat)
  case atStart => exact ⟨0, rfl, Nat.zero_le _, rfl, Below.refl _ _⟩
  case round =>
    obtain ⟨i, rfl, hi, ha, hB⟩ := hrel
    by_cases hlt : i < ls.length
    · have hpt := HR.out _ hB i hlt
      have hf := HF.out i
      have hbad := HBAD.out i hlt
      have hstep := any_stepL hlt ha.out
      generalize St.at_ ls i = p at *
      obtain ⟨x, y⟩ := p
      obtain ⟨m0, m1⟩ := id hpt
      simp only at m0 m1
      clear hpt
      generalize outPl ⟨x, y⟩ = q at *
      have HF1 := Lib.hid hf
      clear hf
      cases q with
      | true =>
        obtain rfl : B = true := hbad rfl
        clear hbad hstep HBAD HFIN
        go_wp2_with fail
        ((with_reducible refine (HF1.out _).mono ?_); rintro e w1 ⟨rfl, hb1⟩)
        go_wp2
        go_ret
        exact ⟨_, rfl, decide_eq_true (by omega), hB.nx hb1⟩
      | false =>
        have HS := Lib.hid (hstep rfl)
        clear hbad hstep
        go_wp2_with fail
        ((with_reducible refine (HF1.out _).mono ?_); rintro e w1 ⟨rfl, hb1⟩)
        go_wp2
        go_roundw
        case rel => exact ⟨i + 1, by go_num, by omega, HS.out, hB.nx hb1⟩
        case measure => simp [intOf]; omega
    · obtain rfl : i = ls.length := by omega
      obtain rfl : B = false := HFIN.out ha.out
      clear ha HBAD HFIN
      go_wp2
      go_ret
      exact ⟨_, rfl, rfl, hB⟩
set_option maxRecDepth 100000 in
set_option maxHeartbeats 1000000 in
theorem cnL_c {v : Value} (ls : List St.Pt) (w : World) (S : SlX w v ls) (hln : ls.length ≤ 140737488355328) :
    Calls Tryz.prog 10 #[v, .func (.func 11) #[] #[]] w (Ret w (.bool (ls.any outPl))) := by
  have HI := Lib.hid (ixL_c ls w S hln)
  obtain ⟨sa, cap, rfl⟩ := S.len
  generalize ls.any outPl = B at *
  clear S
  go_enter Tryz.func10, Tryz.ntmps10
  go_wp2_with fail
  ((with_reducible refine (HI.out).mono ?_); rintro e w1 ⟨n, rfl, hn, hb1⟩)
  subst hn
  go_wp2
  go_ret
  exact ⟨rfl, hb1⟩
set_option maxRecDepth 100000 in
set_option maxHeartbeats 1000000 in
theorem playPoints_c {v : Value} (ls : List St.Pt) (w : World) (S : SlX w v ls) (hln : ls.length ≤ 140737488355328) :
    Calls Tryz.prog 4 #[v] w (Ret w (.bool (plOK ls))) := by
  have HC := Lib.hid (cnL_c ls w S hln)
  obtain ⟨sa, cap, rfl⟩ := S.len
  unfold plOK
  generalize ls.any outPl = B at *
  clear S
  generalize ls.length = n at *
  rcases (by omega : n = 0 ∨ 8 < n ∨ (0 < n ∧ n ≤ 8)) with h | h | ⟨h, h2⟩
  · subst h
    clear HC
    go_enter Tryz.func4, Tryz.ntmps4
    go_wp2
    go_ret
    exact ⟨rfl, Below.refl _ _⟩
  · rw [decide_eq_false (by omega)]
    have z1 : (0 : Int) < (n : Int) := by omega
    have z2 : ¬ (n : Int) ≤ 8 := by omega
    clear HC
    go_enter Tryz.func4, Tryz.ntmps4
    go_wp2
    go_ret
    refine ⟨ret_bool ?_, Below.refl _ _⟩; first | rfl | (simp; done) | (simp; omega)
  · rw [decide_eq_true ⟨h, h2⟩]
    have z1 : (0 : Int) < (n : Int) := by omega
    have z2 : (n : Int) ≤ 8 := by omega
    go_enter Tryz.func4, Tryz.ntmps4
    go_wp2_with fail
    ((with_reducible refine (HC.out).mono ?_); rintro e w1 ⟨rfl, hb1⟩)
    go_wp2
    go_ret
    refine ⟨ret_bool ?_, hb1⟩; first | rfl | (simp; done) | (simp; omega)
end Go.Proofs.Wk
/- ZONES ALONG DIRECTIONS, plain: the width of points is at most that of any zone, and that of the zone along its pair. -/
namespace Lp
theorem wid_le_along {l : List St.Pt} {d : St.Pt} (hl : l ≠ []) (hd : d ≠ ⟨0, 0⟩) : St.wid l ≤ Or.along l d := by
  have hp := Or.dot2_pos hd
  refine St.le_of_mul_pos (St.rat_pos hp) ?_
  unfold Or.along
  rw [St.divInt_mul (by omega)]
  exact St.wid_le hd (Or.rg_spec (St.crs d) hl).1
theorem wid_pair {l : List St.Pt} {z : St.Prf} (h : St.least l = some z) : Or.along l (St.sub (St.at_ l z.j) (St.at_ l z.i)) = St.wid l := by
  obtain ⟨h1, h2, h3, h4, h5, h6, h7⟩ := St.least_pair h
  have hl : l ≠ [] := fun e => by rw [e] at h2; simp at h2
  rw [h7, ← h6]
  unfold Or.along St.wq
  rw [← St.far_dot]
  obtain ⟨a1, x, hx, y, hy, a2⟩ := St.acr_spec (St.at_ l z.i) (St.at_ l z.j) hl
  obtain ⟨b1, x', hx', y', hy', b2⟩ := Or.rg_spec (St.crs (St.sub (St.at_ l z.j) (St.at_ l z.i))) hl
  have e : Or.rg l (St.crs (St.sub (St.at_ l z.j) (St.at_ l z.i))) = St.acr l (St.at_ l z.i) (St.at_ l z.j) := by
    have c1 := b1 x hx y hy
    have c2 := a1 x' hx' y' hy'
    rw [St.left_diff] at a2 c2
    omega
  rw [e]
theorem wid_none {l : List St.Pt} (h : St.least l = none) : St.wid l = 0 := by unfold St.wid; rw [h]
end Lp
/- RINGS: the law TopRingsLines, walked. -/
namespace Go.Proofs.Wk
open Go.RowKit Mt

theorem chkP_mkL {l : List St.Pt} (h1 : l.length ≤ 64) (h2 : ∀ p ∈ l, St.InP p) : St.chkP l = 0 := by
  unfold St.chkP
  rw [if_neg (by omega), if_pos (List.all_eq_true.2 fun p hp => St.inB_iff.2 (h2 p hp))]
theorem givP_mkL {l : List St.Pt} (h0 : 0 < l.length) (h1 : l.length ≤ 64) (h2 : ∀ p ∈ l, St.InP p) : St.givP l = 0 := by
  unfold St.givP
  rw [if_pos (chkP_mkL h1 h2), if_neg (by omega)]
theorem leaf_one {B : Nat} {w W : World} {gp : Nat} {a b v0 v1 : Value} {T : TypeId} (hp : W.heap[gp]? = some (.cells #[a, b] T (0, 0))) (hle : B ≤ gp) (hB : Below B w W) :
    ((W.setCell ⟨gp, 0, none⟩ v0).setCell ⟨gp, 1, none⟩ v1).heap[gp]? = some (.cells #[v0, v1] T (0, 0)) ∧ Below B w ((W.setCell ⟨gp, 0, none⟩ v0).setCell ⟨gp, 1, none⟩ v1) :=
  ⟨heap_setCell_same _ gp 1 _ _ v1 (heap_setCell_same W gp 0 _ _ v0 hp), Below.setc (Below.setc hB hle _ _) hle _ _⟩
section
variable {ls : List St.Pt} {d : St.Pt}
theorem along_valL (h : flatE ls d = 0) : ∃ i j : Nat, alongV ls d = .tuple #[.string ⟨(rtoa (Or.along ls d)).toArray⟩, .agg #[.int .i64 (i : Int), .int .i64 (j : Int)], .int .i64 0] := ⟨_, _, if_pos h⟩
theorem rg_szL (hl : ls ≠ []) (f : St.Pt → Int) (hf : ∀ p ∈ ls, -100000000000 ≤ f p ∧ f p ≤ 100000000000) : lng (Or.rg ls f * Or.rg ls f) ≤ 42 := by
  obtain ⟨-, x, hx, y, hy, e⟩ := Or.rg_spec f hl
  have := hf x hx
  have := hf y hy
  rw [e]
  exact Nat.le_trans (lngVV (by omega)) (by decide)
theorem dd_szL (hd : St.InP d) : lng (St.dot d d) ≤ 42 := by
  have := dot_in hd hd
  refine lng_bd (by decide) ?_
  have e : (10 : Nat) ^ 42 > 100000000000 := by decide
  omega
theorem along_szL (hl : ls ≠ []) (hin : ∀ p ∈ ls, St.InP p) (hd : St.InP d) (hne : d ≠ ⟨0, 0⟩) : szQ (Or.along ls d) 42 := by
  have hp := Or.dot2_pos hne
  exact szQ_divInt (rg_szL hl _ fun p h => crs_in hd (hin p h)) (dd_szL hd) (by omega)
theorem flatE_mkL (h0 : 0 < ls.length) (h1 : ls.length ≤ 64) (hin : ∀ p ∈ ls, St.InP p) (hd : St.InP d) (hne : d ≠ ⟨0, 0⟩) : flatE ls d = 0 := by
  have c2 : St.chkP ls = 0 := chkP_mkL h1 hin
  unfold flatE
  rw [if_pos c2, if_pos (St.inB_iff.2 hd), if_neg (by omega), if_neg hne]
end
/-- What the law finds of a pair. -/
structure PrL (ls : List St.Pt) (i j : Nat) : Prop where
  i1 : i < ls.length
  j1 : j < ls.length
  le : i ≤ j
  is : (St.sub (St.at_ ls j) (St.at_ ls i) = ⟨0, 0⟩ ∧ St.wid ls = 0) ∨ (St.sub (St.at_ ls j) (St.at_ ls i) ≠ ⟨0, 0⟩ ∧ Or.along ls (St.sub (St.at_ ls j) (St.at_ ls i)) = St.wid ls)
theorem prL (ls : List St.Pt) (h0 : 0 < ls.length) : PrL ls (bsI (St.least ls)) (bsJ (St.least ls)) := by
  cases q : St.least ls with
  | none =>
    refine ⟨h0, h0, Nat.le_refl _, .inl ⟨?_, Lp.wid_none q⟩⟩
    unfold St.sub; simp [bsI, bsJ]
  | some z =>
    obtain ⟨h1, h2, h3, -⟩ := St.least_pair q
    refine ⟨by show z.i < _; omega, h2, Nat.le_of_lt h1, .inr ⟨fun e => h3 ?_, Lp.wid_pair q⟩⟩
    show St.at_ ls z.i = St.at_ ls z.j
    replace e : St.sub (St.at_ ls z.j) (St.at_ ls z.i) = ⟨0, 0⟩ := e
    generalize St.at_ ls z.i = a at *
    generalize St.at_ ls z.j = b at *
    obtain ⟨ax, ay⟩ := a
    obtain ⟨bx, by_⟩ := b
    unfold St.sub at e
    simp only [St.Pt.mk.injEq] at e ⊢
    omega
set_option maxRecDepth 100000 in
set_option maxHeartbeats 2000000 in
/-- The law where the points are not of the play, or the direction is none. -/
theorem lines_out {v : Value} (ls : List St.Pt) (d : St.Pt) (w : World) (hg : Good w) (S : SlX w v ls) (hln : ls.length ≤ 140737488355328) (ho : plOK ls = false ∨ plOK [d] = false ∨ d = ⟨0, 0⟩) :
    Calls Tryz.prog 3 #[v, ptV d] w (Ret w (.bool true)) := by
  have HPR := Lib.hid (fun W (h : Below w.heap.size w W) => playRing_c W (hg.later h))
  have HPP := Lib.hid (fun W (h : Below w.heap.size w W) => playPoints_c ls W (S.later h) hln)
  have HPD := Lib.hid (fun W => playPoints_c [d] _ (sl1P W d 24) (by simp))
  have hu := heap_alloc_new w (.cells #[.int .i64 d.x, .int .i64 d.y] 24)
  have B0 := below_al w (.cells #[.int .i64 d.x, .int .i64 d.y] 24)
  have pe := fun W => pt_eql d.x d.y 0 0 W
  have hpb := pt_beq d ⟨0, 0⟩
  simp only at hpb
  rw [hpb] at pe
  obtain ⟨sa, cap, rfl⟩ := S.len
  clear S hg hln hpb
  obtain ⟨dx, dy⟩ := d
  simp only at hu B0 HPD pe
  cases q1 : plOK ls with
  | false =>
    rw [q1] at HPP
    clear HPD ho q1 pe hu
    go_enter Tryz.func3, Tryz.ntmps3
    go_wp2_with fail
    generalize w.alloc (.cells #[.int .i64 dx, .int .i64 dy] 24) = W at *
    ((with_reducible refine (HPP.out _ B0).mono ?_); rintro e w1 ⟨rfl, hb1⟩)
    have B1 := B0.nx hb1
    go_wp2_with fail
    ((with_reducible refine (HPR.out _ B1).mono ?_); rintro e w2 ⟨rfl, hb2⟩)
    have B2 := B1.nx hb2
    go_wp2
    go_ret
    exact ⟨rfl, B2⟩
  | true =>
    rw [q1] at HPP
    cases q2 : plOK [(⟨dx, dy⟩ : St.Pt)] with
    | false =>
      rw [q2] at HPD
      clear ho q1 q2 pe
      go_enter Tryz.func3, Tryz.ntmps3
      go_wp2_with fail
      generalize w.alloc (.cells #[.int .i64 dx, .int .i64 dy] 24) = W at *
      ((with_reducible refine (HPP.out _ B0).mono ?_); rintro e w1 ⟨rfl, hb1⟩)
      have B1 := B0.nx hb1
      obtain ⟨u0, u1⟩ := c2row (keepD hu hb1)
      go_wp2_with fail
      have BA := B1.nx (below_al w1 (.cells #[.int .i64 dx, .int .i64 dy] 24))
      ((with_reducible refine (HPD.out _).mono ?_); rintro e w2 ⟨rfl, hb2⟩)
      have B2 := BA.nx hb2
      clear u0 u1
      go_wp2_with fail
      ((with_reducible refine (HPR.out _ B2).mono ?_); rintro e w3 ⟨rfl, hb3⟩)
      have B3 := B2.nx hb3
      go_wp2
      go_ret
      exact ⟨rfl, B3⟩
    | true =>
      rw [q2] at HPD
      have q3 : (⟨dx, dy⟩ : St.Pt) = ⟨0, 0⟩ := by
        rcases ho with h | h | h
        · rw [q1] at h; cases h
        · rw [q2] at h; cases h
        · exact h
      rw [decide_eq_true q3] at pe
      clear ho q1 q2 q3
      go_enter Tryz.func3, Tryz.ntmps3
      go_wp2_with fail
      generalize w.alloc (.cells #[.int .i64 dx, .int .i64 dy] 24) = W at *
      ((with_reducible refine (HPP.out _ B0).mono ?_); rintro e w1 ⟨rfl, hb1⟩)
      have B1 := B0.nx hb1
      replace hu := keepD hu hb1
      obtain ⟨u0, u1⟩ := c2row hu
      go_wp2_with fail
      have ba := below_al w1 (.cells #[.int .i64 dx, .int .i64 dy] 24)
      have BA := B1.nx ba
      ((with_reducible refine (HPD.out _).mono ?_); rintro e w2 ⟨rfl, hb2⟩)
      have B2 := BA.nx hb2
      replace hu := keepD (keepD hu ba) hb2
      clear u0 u1
      obtain ⟨u0, u1⟩ := c2row hu
      go_wp2_with fail
      ((with_reducible refine (HPR.out _ B2).mono ?_); rintro e w3 ⟨rfl, hb3⟩)
      have B3 := B2.nx hb3
      go_wp2
      go_ret
      exact ⟨rfl, B3⟩
set_option maxRecDepth 100000 in
set_option linter.unusedSimpArgs false in
set_option maxHeartbeats 4000000 in
theorem lines_c {v : Value} (ls : List St.Pt) (d : St.Pt) (w : World) (hg : Good w) (S : SlX w v ls) (hln : ls.length ≤ 140737488355328) :
    Calls Tryz.prog 3 #[v, ptV d] w (Ret w (.bool true)) := by
  by_cases ho : plOK ls = false ∨ plOK [d] = false ∨ d = ⟨0, 0⟩
  · exact lines_out ls d w hg S hln ho
  have q1 : plOK ls = true := by cases h : plOK ls with | true => rfl | false => exact absurd (.inl h) ho
  have q2 : plOK [d] = true := by cases h : plOK [d] with | true => rfl | false => exact absurd (.inr (.inl h)) ho
  have hne : d ≠ ⟨0, 0⟩ := fun h => ho (.inr (.inr h))
  obtain ⟨n0, n8, hpl⟩ := plOK_is q1
  have hdp := inPl_is.1 ((plOK_is q2).2.2 d (by simp))
  have hpin : ∀ p ∈ ls, St.InP p := fun p hp => by
    have := inPl_is.1 (hpl p hp)
    unfold St.InP
    omega
  have hdin : St.InP d := by unfold St.InP; omega
  have hlz : ls ≠ [] := by rintro rfl; simp at n0
  have hgi : St.givP ls = 0 := givP_mkL n0 (by omega) hpin
  have hPR := prL ls n0
  have HPR := Lib.hid (fun W (h : Below w.heap.size w W) => playRing_c W (hg.later h))
  have HPP := Lib.hid (fun W (h : Below w.heap.size w W) => playPoints_c ls W (S.later h) hln)
  have HPD := Lib.hid (fun W => playPoints_c [d] _ (sl1P W d 24) (by simp))
  have HWD := Lib.hid (fun W (h : Below w.heap.size w W) => by have := Width_c ls W (hg.later h) (S.later h) hln; rwa [show widV ls = _ from if_pos hgi, bsQ_wid] at this)
  have HAL := Lib.hid (fun e (he : St.InP e) (hn : e ≠ ⟨0, 0⟩) => show ∃ a b : Nat, ∀ W, Below w.heap.size w W → Calls Tryz.prog 7 #[v, ptV e] W (Ret W (.tuple #[.string ⟨(rtoa (Or.along ls e)).toArray⟩, .agg #[.int .i64 (a : Int), .int .i64 (b : Int)], .int .i64 0])) from by
    obtain ⟨a, b, h⟩ := along_valL (flatE_mkL n0 (by omega) hpin he hn)
    refine ⟨a, b, fun W hb => ?_⟩
    have := Along_c ls e W (hg.later hb) (S.later hb) hln
    rwa [h] at this)
  have HCM := Lib.hid (fun W (h : Below w.heap.size w W) => qCmpR (St.wid ls) (Or.along ls d) W (hg.later h) ((wid_sz hpin).mono (by decide)) ((along_szL hlz hpin hdin hne).mono (by decide)))
  have hcm : cmpQ (St.wid ls) (Or.along ls d) ≤ 0 := by
    have := cmpQ_le (St.wid ls) (Or.along ls d)
    rw [decide_eq_true (Lp.wid_le_along hlz hne)] at this
    exact of_decide_eq_true this
  obtain ⟨a1, b1, HA1⟩ := HAL.out d hdin hne
  have HAD := Lib.hid HA1
  rw [q1] at HPP
  rw [q2] at HPD
  have hi1 := hPR.i1
  have hj1 := hPR.j1
  have hle := hPR.le
  have his := hPR.is
  generalize bsI (St.least ls) = i at *
  generalize bsJ (St.least ls) = j at *
  generalize bsF (St.least ls) = f at *
  have hpi := inPl_is.1 (hpl _ (St.at_mem hi1))
  have hpj := inPl_is.1 (hpl _ (St.at_mem hj1))
  have HMI := Lib.hid (fun W => rMinus_c (St.at_ ls j) (St.at_ ls i) W (hpin _ (St.at_mem hj1)) (hpin _ (St.at_mem hi1)))
  have hwin : St.InP (St.sub (St.at_ ls j) (St.at_ ls i)) := by
    generalize St.at_ ls i = p at *
    generalize St.at_ ls j = q at *
    unfold St.InP St.sub
    simp only
    omega
  have HIS := Lib.hid (show (St.sub (St.at_ ls j) (St.at_ ls i) = ⟨0, 0⟩ ∧ St.wid ls = 0) ∨ (St.sub (St.at_ ls j) (St.at_ ls i) ≠ ⟨0, 0⟩ ∧ ∃ a b : Nat, ∀ W, Below w.heap.size w W → Calls Tryz.prog 7 #[v, ptV (St.sub (St.at_ ls j) (St.at_ ls i))] W (Ret W (.tuple #[.string ⟨(rtoa (St.wid ls)).toArray⟩, .agg #[.int .i64 (a : Int), .int .i64 (b : Int)], .int .i64 0]))) from by
    rcases his with h | ⟨h, e⟩
    · exact .inl h
    · obtain ⟨a, b, hab⟩ := HAL.out _ hwin h
      rw [e] at hab
      exact .inr ⟨h, a, b, hab⟩)
  have pe := fun W => pt_eql d.x d.y 0 0 W
  have hpb := pt_beq d ⟨0, 0⟩
  simp only at hpb
  rw [hpb, decide_eq_false hne] at pe
  have pw := fun W => pt_eql (St.sub (St.at_ ls j) (St.at_ ls i)).x (St.sub (St.at_ ls j) (St.at_ ls i)).y 0 0 W
  have hpb := pt_beq (St.sub (St.at_ ls j) (St.at_ ls i)) ⟨0, 0⟩
  simp only at hpb
  rw [hpb] at pw
  refine S.cases _ ?_ ?_
  · rintro a cap rfl rfl
    simp at n0
  rintro b off cap rfl hp hR hb
  have HRI := Lib.hid (fun (W : World) (h : Below w.heap.size w W) => (hR.later h hb).ptAt hi1)
  have HRJ := Lib.hid (fun (W : World) (h : Below w.heap.size w W) => (hR.later h hb).ptAt hj1)
  have hu := heap_alloc_new w (.cells #[.int .i64 d.x, .int .i64 d.y] 24)
  have B0 := below_al w (.cells #[.int .i64 d.x, .int .i64 d.y] 24)
  generalize cmpQ (St.wid ls) (Or.along ls d) = c at *
  generalize rtoa (Or.along ls d) = TA at *
  obtain ⟨X, hX⟩ : ∃ X, rtoa (St.wid ls) = X := ⟨_, rfl⟩
  have HX0 := Lib.hid (show St.wid ls = 0 → X = [48] from fun h => by rw [← hX, h]; exact rtoa_zero)
  rw [hX] at HWD HIS HCM
  generalize ls.length = n at *
  generalize St.at_ ls i = p at *
  generalize St.at_ ls j = q at *
  obtain ⟨wx, wy, hw⟩ : ∃ x y, St.sub q p = ⟨x, y⟩ := ⟨_, _, rfl⟩
  rw [hw] at HMI HIS pw
  obtain ⟨dx, dy⟩ := d
  obtain ⟨px, py⟩ := p
  obtain ⟨qx, qy⟩ := q
  simp only at hu B0 HPD pe pw HRI HRJ
  have z1 : ¬ 0 < c := by omega
  have z2 : (i : Int) ≤ (j : Int) := by omega
  have z3 : ¬ (i : Int) < 0 := by omega
  have z4 : ¬ (n : Int) ≤ (j : Int) := by omega
  have z5 : (j : Int) < (n : Int) := by omega
  have z6 : (i : Int) < (n : Int) := by omega
  have z7 : (0 : Int) ≤ (i : Int) := by omega
  have z8 : (0 : Int) ≤ (j : Int) := by omega
  have z9 : min (i : Int) (j : Int) = (i : Int) := by omega
  have z10 : max (i : Int) (j : Int) = (j : Int) := by omega
  clear S hg hln hpb ho q1 q2 hne hpl hdp hpin hdin hlz hgi hPR hi1 hj1 hle his hpi hpj hwin HAL HA1 hcm hX hw hp hR hb n0 n8
  go_enter Tryz.func3, Tryz.ntmps3
  go_wp2_with fail
  generalize w.alloc (.cells #[.int .i64 dx, .int .i64 dy] 24) = W at *
  ((with_reducible refine (HPP.out _ B0).mono ?_); rintro e w1 ⟨rfl, hb1⟩)
  have B1 := B0.nx hb1
  replace hu := keepD hu hb1
  obtain ⟨u0, u1⟩ := c2row hu
  go_wp2_with fail
  have ba := below_al w1 (.cells #[.int .i64 dx, .int .i64 dy] 24)
  have BA := B1.nx ba
  ((with_reducible refine (HPD.out _).mono ?_); rintro e w2 ⟨rfl, hb2⟩)
  have B2 := BA.nx hb2
  replace hu := keepD (keepD hu ba) hb2
  clear u0 u1 hb1 hb2 ba BA B0 B1 HPP HPD
  obtain ⟨u0, u1⟩ := c2row hu
  go_wp2_with fail
  clear u0 u1 pe
  ((with_reducible refine (HWD.out _ B2).mono ?_); rintro e w3 ⟨rfl, hb3⟩)
  have ba := below_al w3 (.cells #[.int .i64 (i : Int), .int .i64 (j : Int)] 28)
  have he := heap_alloc_new w3 (.cells #[.int .i64 (i : Int), .int .i64 (j : Int)] 28)
  have B3 := (B2.nx hb3).nx ba
  replace hu := keepD (keepD hu hb3) ba
  clear hb3 ba B2 HWD
  obtain ⟨u0, u1⟩ := c2row hu
  go_upto_region 4 with fail
  generalize hge : w3.heap.size = ge at *
  generalize w3.alloc (.cells #[.int .i64 (i : Int), .int .i64 (j : Int)] 28) = W3 at *
  clear hge
  go_wp2_with fail
  ((with_reducible refine (HAD.out _ B3).mono ?_); rintro e w4 ⟨rfl, hb4⟩)
  have ba := below_al w4 (.cells #[.int .i64 (a1 : Int), .int .i64 (b1 : Int)] 28)
  have B4 := (B3.nx hb4).nx ba
  replace he := keepD (keepD he hb4) ba
  clear hb4 ba B3 HAD hu u0 u1
  go_upto_region 5 with fail
  generalize w4.alloc (.cells #[.int .i64 (a1 : Int), .int .i64 (b1 : Int)] 28) = W4 at *
  go_wp2_with fail
  ((with_reducible refine (HCM.out _ B4).mono ?_); rintro e w5 ⟨rfl, hb5⟩)
  have B5 := B4.nx hb5
  replace he := keepD he hb5
  clear hb5 B4 HCM
  obtain ⟨e0, e1⟩ := c2row he
  go_upto_region 8 with fail
  have HES := Lib.hid (fun W (h : Below w5.heap.size w5 W) => c2row (keepD he h))
  have HPT := Lib.hid (fun W (h : Below w5.heap.size w5 W) => (⟨(HES.out W h).1, (HES.out W h).2, (HRI.out W (B5.nx h)).1, (HRI.out W (B5.nx h)).2, (HRJ.out W (B5.nx h)).1, (HRJ.out W (B5.nx h)).2⟩ :
    W.cell? ⟨ge, 0, none⟩ = some (.int .i64 (i : Int)) ∧ W.cell? ⟨ge, 1, none⟩ = some (.int .i64 (j : Int)) ∧ W.cell? ⟨b, off + i * 2, none⟩ = some (.int .i64 px) ∧ W.cell? ⟨b, off + i * 2 + 1, none⟩ = some (.int .i64 py) ∧ W.cell? ⟨b, off + j * 2, none⟩ = some (.int .i64 qx) ∧ W.cell? ⟨b, off + j * 2 + 1, none⟩ = some (.int .i64 qy)))
  have hq := Below.refl w5.heap.size w5
  have HB5 := Lib.hid B5
  clear e0 e1 he B5 HES HRI HRJ
  go_cut [14] from 52 (fun s wz => ∃ gw : Nat, s = .pointer (some ⟨gw, 0, none⟩) ∧ Hid (wz.heap[gw]? = some (.cells #[.int .i64 wx, .int .i64 wy] 24 (0, 0))) ∧ Hid (Below w5.heap.size w5 wz))
  case first =>
    refine Go.Front.wp_region_front (S := fun V => V.cell? ⟨ge, 0, none⟩ = some (.int .i64 (i : Int)) ∧ V.cell? ⟨ge, 1, none⟩ = some (.int .i64 (j : Int)) ∧ V.cell? ⟨b, off + i * 2, none⟩ = some (.int .i64 px) ∧ V.cell? ⟨b, off + i * 2 + 1, none⟩ = some (.int .i64 py) ∧ V.cell? ⟨b, off + j * 2, none⟩ = some (.int .i64 qx) ∧ V.cell? ⟨b, off + j * 2 + 1, none⟩ = some (.int .i64 qy)) 12 (by kernel_rfl) (by simp) (by kernel_rfl) (by kernel_rfl) (by kernel_rfl) (by kernel_rfl) ?_ (fun hHeld => ?_)
    · (exact HPT.out _ (by repeat first | assumption | refine Below.drew ?_ | refine Below.nxt ?_ (lal _ _)))
    simp only [List.take_succ_cons, List.take_zero, List.drop_succ_cons, List.drop_zero]
    refine wpAnyH_take (i := 0) (v := ?_) rfl (by kernel_rfl) (by kernel_rfl) (by kernel_rfl) (fun _ _ _ h => h) (Or.inl ⟨by rfl, ?_⟩) hHeld ?_
    rotate_left
    · intro W hSw; (try dsimp only at hSw); go_simp <;> with_reducible rfl
    (try simp only [Act.put, List.setIfInBounds_toArray, List.set_cons_zero, List.set_cons_succ])
    refine wpAnyH_take (i := 1) (v := ?_) rfl (by kernel_rfl) (by kernel_rfl) (by kernel_rfl) (fun _ _ _ h => h) (Or.inl ⟨by rfl, ?_⟩) hHeld ?_
    rotate_left
    · intro W hSw; (try dsimp only at hSw); go_simp <;> with_reducible rfl
    (try simp only [Act.put, List.setIfInBounds_toArray, List.set_cons_zero, List.set_cons_succ])
    refine wpAnyH_take (i := 2) (v := ?_) rfl (by kernel_rfl) (by kernel_rfl) (by kernel_rfl) (fun _ _ _ h => h) (Or.inl ⟨by rfl, ?_⟩) hHeld ?_
    rotate_left
    · intro W hSw; (try dsimp only at hSw); go_simp <;> with_reducible rfl
    (try simp only [Act.put, List.setIfInBounds_toArray, List.set_cons_zero, List.set_cons_succ])
    refine wpAnyH_take (i := 3) (v := ?_) rfl (by kernel_rfl) (by kernel_rfl) (by kernel_rfl) (fun _ _ _ h => h) (Or.inl ⟨by rfl, ?_⟩) hHeld ?_
    rotate_left
    · intro W hSw; (try dsimp only at hSw); go_simp <;> with_reducible rfl
    (try simp only [Act.put, List.setIfInBounds_toArray, List.set_cons_zero, List.set_cons_succ])
    refine wpAnyH_take (i := 4) (v := ?_) rfl (by kernel_rfl) (by kernel_rfl) (by kernel_rfl) (fun _ _ _ h => h) (Or.inl ⟨by rfl, ?_⟩) hHeld ?_
    rotate_left
    · intro W hSw; (try dsimp only at hSw); go_simp <;> with_reducible rfl
    (try simp only [Act.put, List.setIfInBounds_toArray, List.set_cons_zero, List.set_cons_succ])
    refine wpAnyH_take (i := 5) (v := ?_) rfl (by kernel_rfl) (by kernel_rfl) (by kernel_rfl) (fun _ _ _ h => h) (Or.inl ⟨by rfl, ?_⟩) hHeld ?_
    rotate_left
    · intro W hSw; (try dsimp only at hSw); go_simp <;> with_reducible rfl
    (try simp only [Act.put, List.setIfInBounds_toArray, List.set_cons_zero, List.set_cons_succ])
    refine wpAnyH_take (i := 6) (v := ?_) rfl (by kernel_rfl) (by kernel_rfl) (by kernel_rfl) (fun _ _ _ h => h) (Or.inl ⟨by rfl, ?_⟩) hHeld ?_
    rotate_left
    · intro W hSw; (try dsimp only at hSw); go_simp <;> with_reducible rfl
    (try simp only [Act.put, List.setIfInBounds_toArray, List.set_cons_zero, List.set_cons_succ])
    refine wpAnyH_take (i := 7) (v := ?_) rfl (by kernel_rfl) (by kernel_rfl) (by kernel_rfl) (fun _ _ _ h => h) (Or.inl ⟨by rfl, ?_⟩) hHeld ?_
    rotate_left
    · intro W hSw; (try dsimp only at hSw); go_simp <;> with_reducible rfl
    (try simp only [Act.put, List.setIfInBounds_toArray, List.set_cons_zero, List.set_cons_succ])
    refine wpAnyH_take (i := 8) (v := ?_) rfl (by kernel_rfl) (by kernel_rfl) (by kernel_rfl) (fun _ _ _ h => h) (Or.inl ⟨by rfl, ?_⟩) hHeld ?_
    rotate_left
    · intro W hSw; (try dsimp only at hSw); go_simp <;> with_reducible rfl
    (try simp only [Act.put, List.setIfInBounds_toArray, List.set_cons_zero, List.set_cons_succ])
    refine wpAnyH_take (i := 9) (v := ?_) rfl (by kernel_rfl) (by kernel_rfl) (by kernel_rfl) (fun _ _ _ h => h) (Or.inl ⟨by rfl, ?_⟩) hHeld ?_
    rotate_left
    · intro W hSw; (try dsimp only at hSw); go_simp <;> with_reducible rfl
    (try simp only [Act.put, List.setIfInBounds_toArray, List.set_cons_zero, List.set_cons_succ])
    refine wpAnyH_ready (rs := [10, 11]) (by kernel_rfl) (by simp) ?_
    refine AllReadyH.cons rfl (fun K hK => ?_) (AllReadyH.cons rfl (fun K hK => ?_) AllReadyH.nil)
    · go_simp
      ((with_reducible refine (HMI.out _).mono ?_); rintro en v1 ⟨rfl, hb1⟩; have C1 := Below.nxt (a := w5) (by repeat first | assumption | refine Below.drew ?_ | refine Below.nxt ?_ (lal _ _)) hb1; go_simp)
      refine hK.out _ _ ?_ (fun hHeld => ?_)
      · ((try dsimp only); exact HPT.out _ (by repeat first | assumption | refine Below.drew ?_ | refine Below.nxt ?_ (lal _ _)))
      clear hK K
      (try simp only [Act.put, List.setIfInBounds_toArray, List.set_cons_zero, List.set_cons_succ])
      refine wpAnyH_ready (rs := [11]) (by kernel_rfl) (by simp) ?_
      refine AllReadyH.cons rfl (fun K hK => ?_) AllReadyH.nil
      · go_simp
        have G2 : w5.heap.size ≤ (v1).heap.size := Below.size (show Below w5.heap.size w5 v1 from (by repeat first | assumption | refine Below.drew ?_ | refine Below.nxt ?_ (lal _ _)))
        have C2 := Below.nxt (a := w5) (show Below w5.heap.size w5 v1 from (by repeat first | assumption | refine Below.drew ?_ | refine Below.nxt ?_ (lal _ _))) (lal v1 (.cells #[.int .i64 0, .int .i64 0] 24))
        have Z11_2 := heap_alloc_new v1 (.cells #[.int .i64 0, .int .i64 0] 24)
        refine hK.out _ (v1.alloc (.cells #[.int .i64 0, .int .i64 0] 24)) ?_ (fun hHeld => ?_)
        · ((try dsimp only); exact HPT.out _ (by repeat first | assumption | refine Below.drew ?_ | refine Below.nxt ?_ (lal _ _)))
        clear hK K
        (try simp only [Act.put, List.setIfInBounds_toArray, List.set_cons_zero, List.set_cons_succ])
        generalize (v1.alloc (.cells #[.int .i64 0, .int .i64 0] 24)) = v2 at *
        refine wpAnyH_done (by kernel_rfl) ?_ _
        show wpList _ _ _ _ _ _
        have hf := fun k => frozen_of_row _ _ k _ _ Z11_2
        obtain ⟨z0, z1⟩ := c2of Z11_2
        (try simp only [drew_sz] at hf z0 z1)
        have L := Lib.hid (fun v0 v1 => leaf_one (v0 := v0) (v1 := v1) Z11_2 (by first | assumption | omega) (show Below w5.heap.size w5 v2 from (by repeat first | assumption | refine Below.drew ?_ | refine Below.nxt ?_ (lal _ _))))
        go_wp2
        go_meet
        exact ⟨_, rfl, Lib.hid (L.out _ _).1, Lib.hid (L.out _ _).2⟩
    · go_simp
      have G3 : w5.heap.size ≤ (w5.drew).heap.size := Below.size (show Below w5.heap.size w5 w5.drew from (by repeat first | assumption | refine Below.drew ?_ | refine Below.nxt ?_ (lal _ _)))
      have C3 := Below.nxt (a := w5) (show Below w5.heap.size w5 w5.drew from (by repeat first | assumption | refine Below.drew ?_ | refine Below.nxt ?_ (lal _ _))) (lal w5.drew (.cells #[.int .i64 0, .int .i64 0] 24))
      have Z11_3 := heap_alloc_new w5.drew (.cells #[.int .i64 0, .int .i64 0] 24)
      refine hK.out _ (w5.drew.alloc (.cells #[.int .i64 0, .int .i64 0] 24)) ?_ (fun hHeld => ?_)
      · ((try dsimp only); exact HPT.out _ (by repeat first | assumption | refine Below.drew ?_ | refine Below.nxt ?_ (lal _ _)))
      clear hK K
      (try simp only [Act.put, List.setIfInBounds_toArray, List.set_cons_zero, List.set_cons_succ])
      generalize (w5.drew.alloc (.cells #[.int .i64 0, .int .i64 0] 24)) = v3 at *
      refine wpAnyH_ready (rs := [10]) (by kernel_rfl) (by simp) ?_
      refine AllReadyH.cons rfl (fun K hK => ?_) AllReadyH.nil
      · go_simp
        ((with_reducible refine (HMI.out _).mono ?_); rintro en v4 ⟨rfl, hb4⟩; have C4 := Below.nxt (a := w5) (by repeat first | assumption | refine Below.drew ?_ | refine Below.nxt ?_ (lal _ _)) hb4; go_simp)
        have Z11_4 := keepB Z11_3 hb4
        refine hK.out _ _ ?_ (fun hHeld => ?_)
        · ((try dsimp only); exact HPT.out _ (by repeat first | assumption | refine Below.drew ?_ | refine Below.nxt ?_ (lal _ _)))
        clear hK K
        (try simp only [Act.put, List.setIfInBounds_toArray, List.set_cons_zero, List.set_cons_succ])
        refine wpAnyH_done (by kernel_rfl) ?_ _
        show wpList _ _ _ _ _ _
        have hf := fun k => frozen_of_row _ _ k _ _ Z11_4
        obtain ⟨z0, z1⟩ := c2of Z11_4
        (try simp only [drew_sz] at hf z0 z1)
        have L := Lib.hid (fun v0 v1 => leaf_one (v0 := v0) (v1 := v1) Z11_4 (by first | assumption | omega) (show Below w5.heap.size w5 v4 from (by repeat first | assumption | refine Below.drew ?_ | refine Below.nxt ?_ (lal _ _))))
        go_wp2
        go_meet
        exact ⟨_, rfl, Lib.hid (L.out _ _).1, Lib.hid (L.out _ _).2⟩
  case rest =>
  obtain ⟨gw, rfl, hgw, hBW⟩ := hcut
  generalize wc = w6 at *
  have B6 := HB5.out.nx hBW.out
  obtain ⟨g0, g1⟩ := c2row hgw.out
  clear hBW HB5 HPT hq HMI
  rcases HIS.out with ⟨hz, hx⟩ | ⟨hz, a2, b2, ha2⟩
  · obtain rfl := HX0.out hx
    rw [decide_eq_true hz] at pw
    clear HIS HX0 hz hx
    go_wp2_with fail
    ((with_reducible refine (HPR.out _ B6).mono ?_); rintro e w7 ⟨rfl, hb7⟩)
    have B7 := B6.nx hb7
    clear g0 g1
    go_wp2
    go_ret
    exact ⟨rfl, B7⟩
  · rw [decide_eq_false hz] at pw
    have HA2 := Lib.hid ha2
    clear HIS HX0 hz ha2
    go_wp2_with fail
    ((with_reducible refine (HA2.out _ B6).mono ?_); rintro e w7 ⟨rfl, hb7⟩)
    have B7 := (B6.nx hb7).nx (below_al w7 (.cells #[.int .i64 (a2 : Int), .int .i64 (b2 : Int)] 28))
    clear g0 g1 hb7 B6 HA2
    go_upto_region 12 with fail
    generalize w7.alloc (.cells #[.int .i64 (a2 : Int), .int .i64 (b2 : Int)] 28) = W7 at *
    go_wp2_with fail
    ((with_reducible refine (HPR.out _ B7).mono ?_); rintro e w8 ⟨rfl, hb8⟩)
    have B8 := B7.nx hb8
    go_wp2
    go_ret
    exact ⟨rfl, B8⟩
end Go.Proofs.Wk
