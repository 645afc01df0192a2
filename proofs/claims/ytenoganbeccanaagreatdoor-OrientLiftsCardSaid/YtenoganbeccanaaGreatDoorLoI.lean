/- SQUARENESS: the law of lifted points, walked. -/
import Derived.Test.YtenoganbeccanaaGreatDoorLoF
import Derived.Test.YtenoganbeccanaaGreatDoorKB
namespace Go.Proofs.Wk
open Go.RowKit Mt

section
variable {ls : List St.Pt} {d : St.Pt}
theorem along_val (h : flatE ls d = 0) : ∃ i j : Nat, alongV ls d = .tuple #[.string ⟨(rtoa (Or.along ls d)).toArray⟩, .agg #[.int .i64 (i : Int), .int .i64 (j : Int)], .int .i64 0] := ⟨_, _, if_pos h⟩
theorem beside_val (h : flatE ls d = 0) : ∃ i j : Nat, besideV ls d = .tuple #[.string ⟨(rtoa (Or.beside ls d)).toArray⟩, .agg #[.int .i64 (i : Int), .int .i64 (j : Int)], .int .i64 0] := ⟨_, _, if_pos h⟩
theorem flatE_dir {d' : St.Pt} (h : flatE ls d = 0) (hp : St.InP d') (hn : d' ≠ ⟨0, 0⟩) : flatE ls d' = 0 := by
  obtain ⟨l0, -⟩ := flatE_ok h
  unfold flatE at h ⊢
  by_cases hc : St.chkP ls = 0
  · rw [if_pos hc] at h ⊢
    rw [if_pos (St.inB_iff.2 hp), if_neg (by omega), if_neg hn]
  · rw [if_neg hc] at h; exact absurd h hc
theorem rg_sz (hl : ls ≠ []) (f : St.Pt → Int) (hf : ∀ p ∈ ls, -100000000000 ≤ f p ∧ f p ≤ 100000000000) : lng (Or.rg ls f * Or.rg ls f) ≤ 42 := by
  obtain ⟨-, x, hx, y, hy, e⟩ := Or.rg_spec f hl
  have := hf x hx
  have := hf y hy
  rw [e]
  exact Nat.le_trans (lngVV (by omega)) (by decide)
theorem dd_sz (hd : St.InP d) : lng (St.dot d d) ≤ 42 := by
  have := dot_in hd hd
  refine lng_bd (by decide) ?_
  have e : (10 : Nat) ^ 42 > 100000000000 := by decide
  omega
theorem along_sz (hl : ls ≠ []) (hin : ∀ p ∈ ls, St.InP p) (hd : St.InP d) (hne : d ≠ ⟨0, 0⟩) : szQ (Or.along ls d) 42 ∧ szQ (Or.beside ls d) 42 := by
  have hp := Or.dot2_pos hne
  refine ⟨szQ_divInt (rg_sz hl _ fun p h => crs_in hd (hin p h)) (dd_sz hd) (by omega), szQ_divInt (rg_sz hl _ fun p h => ?_) (dd_sz hd) (by omega)⟩
  have := dot_in hd (hin p h); omega
end
/-- The height that a point is lifted to. -/
def hOf (hs : List I8) (i : Nat) : Int := (hs.getD i ⟨0⟩).n
theorem hOf_out {hs : List I8} {i : Nat} (h : hs.length ≤ i) : hOf hs i = 0 := by
  unfold hOf
  rw [List.getD_eq_getElem?_getD, List.getElem?_eq_none h]
  rfl
theorem hOf_bd {hs : List I8} (h : ∀ x ∈ hs, -128 ≤ x.n ∧ x.n ≤ 127) (i : Nat) : -128 ≤ hOf hs i ∧ hOf hs i ≤ 127 := by
  rcases Nat.lt_or_ge i hs.length with q | q
  · unfold hOf
    rw [List.getD_eq_getElem?_getD, List.getElem?_eq_getElem q]
    exact h _ (List.getElem_mem q)
  · rw [hOf_out q]; omega
/-- The first lifted points. -/
def lfL (ls : List St.Pt) (hs : List I8) (k : Nat) : List Or.P3 := (List.range k).map fun a => ⟨(St.at_ ls a).x, (St.at_ ls a).y, hOf hs a⟩
section
variable {ls : List St.Pt} {hs : List I8}
theorem lfL_len {k : Nat} : (lfL ls hs k).length = k := by unfold lfL; simp
theorem lfL_succ (k : Nat) : lfL ls hs (k + 1) = lfL ls hs k ++ [⟨(St.at_ ls k).x, (St.at_ ls k).y, hOf hs k⟩] := by
  unfold lfL
  rw [List.range_succ, List.map_append]
  rfl
theorem lfL_flat : (lfL ls hs ls.length).map Or.flat = ls := by
  unfold lfL
  rw [List.map_map]
  apply List.ext_getElem
  · simp
  · intro i h1 h2
    simp only [List.getElem_map, List.getElem_range, Function.comp]
    rw [← St.at_get h2]
    rfl
theorem lfL_in (hn : ∀ p ∈ ls, near3 ⟨p.x, p.y, 0⟩ = true) (hb : ∀ x ∈ hs, -128 ≤ x.n ∧ x.n ≤ 127) : ∀ p ∈ lfL ls hs ls.length, InS p := by
  intro p hp
  unfold lfL at hp
  obtain ⟨a, ha, rfl⟩ := List.mem_map.1 hp
  have h1 := near3_is.1 (hn _ (St.at_mem (List.mem_range.1 ha)))
  have h2 := hOf_bd hb a
  unfold InS
  simp only at h1 ⊢
  omega
/-- How far the least zone has come. -/
structure LfD (ls : List St.Pt) (i j : Nat) (o : Option Rat) : Prop where
  le : ∀ a b, (a < i ∧ b < ls.length) ∨ (a = i ∧ b < j) → b < ls.length → St.at_ ls a ≠ St.at_ ls b → ∃ m, o = some m ∧ m ≤ Or.along ls (St.sub (St.at_ ls a) (St.at_ ls b))
  is : ∀ m, o = some m → ∃ a b, a < ls.length ∧ b < ls.length ∧ St.at_ ls a ≠ St.at_ ls b ∧ m = Or.along ls (St.sub (St.at_ ls a) (St.at_ ls b))
theorem LfD.start : LfD ls 0 0 none := ⟨fun a b h => absurd h (by omega), fun m h => by cases h⟩
theorem LfD.row {i : Nat} {o : Option Rat} (h : LfD ls i ls.length o) : LfD ls (i + 1) 0 o := by
  refine ⟨fun a b hab hb hne => ?_, h.is⟩
  exact h.le a b (by omega) hb hne
theorem LfD.same {i j : Nat} {o : Option Rat} (h : LfD ls i j o) (he : St.at_ ls i = St.at_ ls j) : LfD ls i (j + 1) o := by
  refine ⟨fun a b hab hb hne => ?_, h.is⟩
  by_cases q : a = i ∧ b = j
  · obtain ⟨rfl, rfl⟩ := q; exact absurd he hne
  · exact h.le a b (by omega) hb hne
def betO (o : Option Rat) (q : Rat) : Option Rat := match o with | none => some q | some b => if q < b then some q else some b
theorem LfD.step {i j : Nat} {o : Option Rat} (h : LfD ls i j o) (hi : i < ls.length) (hj : j < ls.length) (he : St.at_ ls i ≠ St.at_ ls j) : LfD ls i (j + 1) (betO o (Or.along ls (St.sub (St.at_ ls i) (St.at_ ls j)))) := by
  refine ⟨fun a b hab hb hne => ?_, fun m hm => ?_⟩
  · by_cases q : a = i ∧ b = j
    · obtain ⟨rfl, rfl⟩ := q
      cases o with
      | none => exact ⟨_, rfl, Rat.le_refl⟩
      | some m =>
        unfold betO
        simp only
        by_cases c : Or.along ls (St.sub (St.at_ ls a) (St.at_ ls b)) < m
        · rw [if_pos c]; exact ⟨_, rfl, Rat.le_refl⟩
        · rw [if_neg c]; exact ⟨_, rfl, Rat.not_lt.1 c⟩
    · obtain ⟨m, hm, hle⟩ := h.le a b (by omega) hb hne
      subst hm
      unfold betO
      simp only
      by_cases c : Or.along ls (St.sub (St.at_ ls i) (St.at_ ls j)) < m
      · rw [if_pos c]; exact ⟨_, rfl, Rat.le_trans (Rat.le_of_lt c) hle⟩
      · rw [if_neg c]; exact ⟨_, rfl, hle⟩
  · cases o with
    | none =>
      cases hm
      exact ⟨i, j, hi, hj, he, rfl⟩
    | some b =>
      unfold betO at hm
      simp only at hm
      by_cases c : Or.along ls (St.sub (St.at_ ls i) (St.at_ ls j)) < b
      · rw [if_pos c] at hm; cases hm; exact ⟨i, j, hi, hj, he, rfl⟩
      · rw [if_neg c] at hm; cases hm; exact h.is _ rfl
def optT : Option Rat → Txt | none => [] | some q => rtoa q
/-- What the law asks in the end. -/
theorem lift_ok {o : Option Rat} (h : LfD ls ls.length 0 o) (h0 : 0 < ls.length) :
    (rtoa (Or.wid (lfL ls hs ls.length) Or.up) == optT o || (optT o == [] && rtoa (Or.wid (lfL ls hs ls.length) Or.up) == [48])) = true := by
  have hs0 : lfL ls hs ls.length ≠ [] := fun e => by have := congrArg List.length e; rw [lfL_len] at this; simp at this; rw [this] at h0; simp at h0
  have hi := Or.lift_is (s := lfL ls hs ls.length)
  rw [lfL_flat] at hi
  cases o with
  | none =>
    have e : Or.wid (lfL ls hs ls.length) Or.up = 0 := by
      rcases hi with ⟨e, -⟩ | ⟨p, hp, q, hq, hne, -⟩
      · exact e
      · obtain ⟨a, ha, rfl⟩ := St.mem_at hp
        obtain ⟨b, hb, rfl⟩ := St.mem_at hq
        obtain ⟨m, hm, -⟩ := h.le a b (.inl ⟨ha, hb⟩) hb hne
        cases hm
    rw [e, rtoa_zero]
    rfl
  | some m =>
    obtain ⟨a, b, ha, hb, hne, rfl⟩ := h.is m rfl
    have h1 := Or.lift_le (s := lfL ls hs ls.length) (St.at_ ls a) (St.at_ ls b) hs0 hne
    rw [lfL_flat] at h1
    have e : Or.wid (lfL ls hs ls.length) Or.up = Or.along ls (St.sub (St.at_ ls a) (St.at_ ls b)) := by
      rcases hi with ⟨-, hall⟩ | ⟨p, hp, q, hq, hne2, e⟩
      · exact absurd (hall _ (St.at_mem ha) _ (St.at_mem hb)) hne
      · obtain ⟨a2, ha2, rfl⟩ := St.mem_at hp
        obtain ⟨b2, hb2, rfl⟩ := St.mem_at hq
        obtain ⟨m, hm, hle⟩ := h.le a2 b2 (.inl ⟨ha2, hb2⟩) hb2 hne2
        cases hm
        rw [e] at h1 ⊢
        exact Rat.le_antisymm h1 hle
    rw [e]
    simp [optT]
end
def outF (ls : List St.Pt) : Prop := ls.length = 0 ∨ 6 < ls.length ∨ St.chkP ls ≠ 0 ∨ ls.any farP = true
set_option maxRecDepth 100000 in
set_option maxHeartbeats 4000000 in
theorem lifts_out {v u : Value} (ls : List St.Pt) (hs : List I8) (w : World) (hg : Good w) (S : SlX w v ls) (T : SlX w u hs) (hln : ls.length ≤ 140737488355328) (h : outF ls) :
    Calls Tryz.prog 8 #[v, u] w (Ret w (.bool true)) := by
  have HAW := Lib.hid (fun W (h : Below w.heap.size w W) => awakeO_c W (hg.later h))
  have HCK := Lib.hid (fun W (h : Below w.heap.size w W) => rpCheck_c ls W (S.later h) hln)
  have HCT := Lib.hid (fun W (h : Below w.heap.size w W) => cont_i3 ls W (S.later h) hln)
  have HB0 := Lib.hid (Below.refl w.heap.size w)
  obtain ⟨sa, cap, rfl⟩ := S.len
  obtain ⟨ua, ucap, rfl, -⟩ := T.i8s
  by_cases c0 : ls.length = 0
  · have z0 : (ls.length : Int) = 0 := by omega
    have z1 : ((ls.length : Int) == 0) = true := beq_iff_eq.2 z0
    clear S T hg h c0 HCK HCT
    go_enter Tryz.func8, Tryz.ntmps8
    go_wp2_with fail
    ((with_reducible refine (HAW.out _ HB0.out).mono ?_); rintro e wz ⟨rfl, hbz⟩)
    have hBz := (HB0.out).nx hbz
    go_wp2
    go_ret
    exact ⟨rfl, hBz⟩
  have z0 : ((ls.length : Int) == 0) = false := beq_eq_false_iff_ne.2 (by omega)
  by_cases c1 : 6 < ls.length
  · have z1 : (6 : Int) < (ls.length : Int) := by omega
    clear S T hg h c0 c1 HCK HCT
    go_enter Tryz.func8, Tryz.ntmps8
    go_wp2_with fail
    ((with_reducible refine (HAW.out _ HB0.out).mono ?_); rintro e wz ⟨rfl, hbz⟩)
    have hBz := (HB0.out).nx hbz
    go_wp2
    go_ret
    exact ⟨rfl, hBz⟩
  have z1 : ¬ (6 : Int) < (ls.length : Int) := by omega
  by_cases c2 : St.chkP ls = 0
  rotate_left
  · generalize St.chkP ls = E at *
    have z2 : (E != 0) = true := bne_iff_ne.2 c2
    clear S T hg h c0 c1 c2 HCT
    go_enter Tryz.func8, Tryz.ntmps8
    go_wp2_with fail
    ((with_reducible refine (HCK.out _ HB0.out).mono ?_); rintro e w1 ⟨rfl, hb1⟩)
    have B1 := HB0.out.nx hb1
    go_wp2_with fail
    ((with_reducible refine (HAW.out _ B1).mono ?_); rintro e wz ⟨rfl, hbz⟩)
    have hBz := (B1).nx hbz
    go_wp2
    go_ret
    exact ⟨rfl, hBz⟩
  rw [c2] at HCK
  by_cases c3 : ls.any farP = true
  · rw [c3] at HCT
    clear S T hg h c0 c1 c2 c3
    go_enter Tryz.func8, Tryz.ntmps8
    go_wp2_with fail
    ((with_reducible refine (HCK.out _ HB0.out).mono ?_); rintro e w1 ⟨rfl, hb1⟩)
    have B1 := HB0.out.nx hb1
    go_wp2_with fail
    ((with_reducible refine (HCT.out _ B1).mono ?_); rintro e w2 ⟨rfl, hb2⟩)
    have B2 := B1.nx hb2
    go_wp2_with fail
    ((with_reducible refine (HAW.out _ B2).mono ?_); rintro e wz ⟨rfl, hbz⟩)
    have hBz := (B2).nx hbz
    go_wp2
    go_ret
    exact ⟨rfl, hBz⟩
  · exact absurd h (by unfold outF; rintro (h | h | h | h); exact c0 h; exact c1 h; exact h c2; exact c3 h)
theorem new_sp2 (W : World) (a : Obj) (p : Or.P3) (t : TypeId) : ∀ j, j < Row.k Or.P3 → ((W.alloc a).alloc (.cells #[.int .i64 p.x, .int .i64 p.y, .int .i64 p.z] t)).cell? ⟨W.heap.size + 1, j, none⟩ = (Row.enc p)[j]? := by
  intro j hj
  rw [cell_of_row _ _ _ _ _ _ (new2 W _ _)]
  match j, hj with
  | 0, _ => rfl
  | 1, _ => rfl
  | 2, _ => rfl
theorem optT_none {o : Option Rat} (h : o = none) : optT o = [] := by rw [h]; rfl
theorem rtoa_ne (q : Rat) : (rtoa q == ([] : Txt)) = false := beq_eq_false_iff_ne.2 (rtoa_nn q)
set_option maxRecDepth 100000 in
set_option maxHeartbeats 8000000 in
theorem lifts_law {v u : Value} (ls : List St.Pt) (hs : List I8) (w : World) (hg : Good w) (S : SlX w v ls) (T : SlX w u hs) (hln : ls.length ≤ 140737488355328) (hb8 : ∀ x ∈ hs, -128 ≤ x.n ∧ x.n ≤ 127) :
    Calls Tryz.prog 8 #[v, u] w (Ret w (.bool true)) := by
  by_cases ho : outF ls
  · exact lifts_out ls hs w hg S T hln ho
  have c0 : ls.length ≠ 0 := fun h => ho (.inl h)
  have c1 : ¬ 6 < ls.length := fun h => ho (.inr (.inl h))
  have c2 : St.chkP ls = 0 := Decidable.byContradiction fun h => ho (.inr (.inr (.inl h)))
  have c3 : ls.any farP = false := by cases q : ls.any farP with | false => rfl | true => exact absurd (.inr (.inr (.inr q))) ho
  have hnr := farP_no c3
  have l0 : 0 < ls.length := by omega
  have hlz : ls ≠ [] := by rintro rfl; simp at l0
  have HAW := Lib.hid (fun W (h : Below w.heap.size w W) => awakeO_c W (hg.later h))
  have HCK := Lib.hid (fun W (h : Below w.heap.size w W) => rpCheck_c ls W (S.later h) hln)
  have HCT := Lib.hid (fun W (h : Below w.heap.size w W) => cont_i3 ls W (S.later h) hln)
  have HB0 := Lib.hid (Below.refl w.heap.size w)
  rw [c2] at HCK
  rw [c3] at HCT
  have z0 : ((ls.length : Int) == 0) = false := beq_eq_false_iff_ne.2 (by omega)
  have z1 : ¬ (6 : Int) < (ls.length : Int) := by omega
  have hpin : ∀ p ∈ ls, St.InP p := fun p hp => by
    have := near3_is.1 (hnr p hp)
    unfold St.InP
    simp only at this
    omega
  have hui : InS Or.up := by unfold InS Or.up; simp only; omega
  have hue : Or.up ≠ ⟨0, 0, 0⟩ := by unfold Or.up; intro e; injection e with _ _ e; omega
  have e0 : highE (lfL ls hs ls.length) Or.up = 0 := highE_mk (by rw [lfL_len]; exact l0) (by rw [lfL_len]; omega) (lfL_in hnr hb8) hui hue
  obtain ⟨i1, j1, k1, v1⟩ := upV_val e0
  have HUP := Lib.hid (fun m W (h : Below w.heap.size w W) (M : SlX W m (lfL ls hs ls.length)) => show Calls Tryz.prog 35 #[m, .agg #[.int .i64 0, .int .i64 0, .int .i64 1]] W _ from by have := Upright_c (lfL ls hs ls.length) Or.up W (hg.later h) M (by rw [lfL_len]; exact hln); rwa [v1] at this)
  have hE0 : ∀ d : St.Pt, St.InP d → d ≠ ⟨0, 0⟩ → flatE ls d = 0 := fun d hd hn => by
    unfold flatE
    rw [if_pos c2, if_pos (St.inB_iff.2 hd), if_neg c0, if_neg hn]
  have hsub : ∀ i j, i < ls.length → j < ls.length → St.at_ ls i ≠ St.at_ ls j → St.InP (St.sub (St.at_ ls i) (St.at_ ls j)) ∧ St.sub (St.at_ ls i) (St.at_ ls j) ≠ ⟨0, 0⟩ := fun i j hi hj hne => by
    have a := near3_is.1 (hnr _ (St.at_mem hi))
    have b := near3_is.1 (hnr _ (St.at_mem hj))
    generalize St.at_ ls i = p at *
    generalize St.at_ ls j = q at *
    obtain ⟨px, py⟩ := p
    obtain ⟨qx, qy⟩ := q
    simp only at a b
    refine ⟨by unfold St.InP St.sub; simp only; omega, fun e => hne ?_⟩
    unfold St.sub at e
    simp only [St.Pt.mk.injEq] at e ⊢
    omega
  have HMI := Lib.hid (fun i j (hi : i < ls.length) (hj : j < ls.length) W => rMinus_c (St.at_ ls i) (St.at_ ls j) W (hpin _ (St.at_mem hi)) (hpin _ (St.at_mem hj)))
  have HAL := Lib.hid (fun i j (hi : i < ls.length) (hj : j < ls.length) (hne : St.at_ ls i ≠ St.at_ ls j) => show ∃ a b : Nat, ∀ W, Below w.heap.size w W → Calls Tryz.prog 26 #[v, ptV (St.sub (St.at_ ls i) (St.at_ ls j))] W (Ret W (.tuple #[.string ⟨(rtoa (Or.along ls (St.sub (St.at_ ls i) (St.at_ ls j)))).toArray⟩, .agg #[.int .i64 (a : Int), .int .i64 (b : Int)], .int .i64 0])) from by
    obtain ⟨h1, h2⟩ := hsub i j hi hj hne
    obtain ⟨a, b, e⟩ := along_val (hE0 _ h1 h2)
    refine ⟨a, b, fun W hb => ?_⟩
    have := Along_c ls (St.sub (St.at_ ls i) (St.at_ ls j)) W (hg.later hb) (S.later hb) hln
    rwa [e] at this)
  have HSZ := Lib.hid (fun i j (hi : i < ls.length) (hj : j < ls.length) (hne : St.at_ ls i ≠ St.at_ ls j) => (along_sz hlz hpin (hsub i j hi hj hne).1 (hsub i j hi hj hne).2).1)
  have HQC := Lib.hid (fun q (h : szQ q 42) W => show Calls Tryz.prog 48 #[.string ⟨(rtoa q).toArray⟩] W (Ret W (.int .i64 0)) from by have := rqCheck_c (rtoa q) W (tlen (h.ok (by decide))); rwa [rchk_rtoa (h.ok (by decide))] at this)
  have HOR := Lib.hid (fun p q W (hp : szQ p 42) (hq : szQ q 42) => Order_q p q W (hp.mono (by decide)) (hq.mono (by decide)))
  have HSO := Lib.hid (fun i j o (h : LfD ls i j o) m (e : o = some m) => show szQ m 42 from by
    obtain ⟨a, b, ha, hb, hne, rfl⟩ := h.is m e
    exact HSZ.out a b ha hb hne)
  have HL0 := Lib.hid (LfD.start (ls := ls))
  have HLR := Lib.hid (fun i o => @LfD.row ls i o)
  have HLE := Lib.hid (fun i j o => @LfD.same ls i j o)
  have HLS := Lib.hid (fun i j o => @LfD.step ls i j o)
  have HLO := Lib.hid (fun o (h : LfD ls ls.length 0 o) => lift_ok (hs := hs) h l0)
  have HHB := Lib.hid (fun i => hOf_bd hb8 i)
  have HHO := Lib.hid (fun i => @hOf_out hs i)
  have HSU := Lib.hid (fun k => @lfL_succ ls hs k)
  obtain ⟨ua, ucap, rfl, hby⟩ := T.i8s
  have HBY := Lib.hid hby
  refine S.cases _ ?_ ?_
  · rintro a cap rfl rfl
    simp at l0
  rintro b off cap rfl hp hR hb
  have HRR := Lib.hid (fun (W : World) (h : Below w.heap.size w W) (k : Nat) (hk : k < ls.length) => (hR.later h hb).ptAt hk)
  have pe := fun a b c d W => pt_eql a b c d W
  have HLL := Lib.hid (show ∀ k, k < ls.length → ((lfL ls hs k).length + 1) * 24 ≤ 140737488355328 from fun k hk => by rw [lfL_len]; omega)
  have HOF := Lib.hid (show ∀ i, hOf hs i = (hs.getD i ⟨0⟩).n from fun i => rfl)
  generalize hOf hs = hf at *
  generalize rtoa (Or.wid (lfL ls hs ls.length) Or.up) = TX at *
  clear S T hg c0 c1 c2 c3 ho hnr hlz hpin hui hue e0 hE0 hsub v1 hby hR hb hp hb8
  go_enter Tryz.func8, Tryz.ntmps8
  go_wp2_with fail
  ((with_reducible refine (HCK.out _ HB0.out).mono ?_); rintro e w1 ⟨rfl, hb1⟩)
  have B1 := HB0.out.nx hb1
  go_wp2_with fail
  ((with_reducible refine (HCT.out _ B1).mono ?_); rintro e w2 ⟨rfl, hb2⟩)
  have B2 := B1.nx hb2
  go_wp2_with fail
  have HB2 := Lib.hid B2
  clear B1 B2 hb1 hb2 HCK HCT HB0
  have HOW := Lib.hid (show OwX 52 w2 w.heap.size (.slice none 0 0) (lfL ls hs 0) from OwX.nil _ _ _)
  go_loopw [5, 40] (fun ss si wr => ∃ i : Nat, si = .int .i64 (i : Int) ∧ i ≤ ls.length ∧ Hid (OwX 52 wr w.heap.size ss (lfL ls hs i)) ∧ Hid (Below w.heap.size w wr)) (fun _ si _ => ls.length - (intOf si).toNat)
  case atStart => exact ⟨0, rfl, Nat.zero_le _, HOW.out, HB2.out⟩
  case round =>
    clear HOW HB2
    obtain ⟨i, rfl, hi, hO, hB⟩ := hrel
    by_cases hlt : i < ls.length
    · rename World => wr
      have hpa := HRR.out _ hB.out i hlt
      have hsu := HSU.out i
      have hll := HLL.out i hlt
      have hhb := HHB.out i
      have hho := fun h => HHO.out i h
      have hof := HOF.out i
      generalize St.at_ ls i = p at *
      obtain ⟨px, py⟩ := p
      simp only at hsu
      have hA := below_al wr (.cells #[.int .i64 px, .int .i64 py] 42)
      obtain ⟨n0, n1⟩ := c2row (heap_alloc_new wr (.cells #[.int .i64 px, .int .i64 py] 42))
      obtain ⟨m0, m1⟩ := id hpa
      simp only at m0 m1
      by_cases hib : i < hs.length
      · obtain ⟨bb, boff, rfl, hrd⟩ := HBY.out i hib
        have hby := hrd _ (hB.out.nx hA)
        rw [← hof] at hby
        generalize hf i = hz at *
        have hA2 := below_al (wr.alloc (.cells #[.int .i64 px, .int .i64 py] 42)) (.cells #[.int .i64 px, .int .i64 py, .int .i64 hz] 52)
        have HNP := Lib.hid (new_sp2 wr (.cells #[.int .i64 px, .int .i64 py] 42) ⟨px, py, hz⟩ 52)
        have HLA := Lib.hid ((hO.out.later hA).later hA2)
        have HSZ2 := Lib.hid (show w.heap.size ≤ ((wr.alloc (.cells #[.int .i64 px, .int .i64 py] 42)).alloc (.cells #[.int .i64 px, .int .i64 py, .int .i64 hz] 52)).heap.size from Nat.le_trans hB.out.size (Nat.le_trans hA.size hA2.size))
        have HBL := Lib.hid ((hB.out.nx hA).nx hA2)
        have HLN := Lib.hid hll
        have HSU2 := Lib.hid hsu
        have hw : IntKind.i64.wrap hz = hz := Go.Proofs.Wk.wr rfl (by omega)
        have hlb2 : (i : Int) < (hs.length : Int) := by omega
        clear hpa hsu hll hhb hho hof hA hA2 hrd hO hB
        go_wp2_with (at_builtin; go_loud (refine wpList_app_row rfl _ _ 50 52 rfl Tryz.underlying50 spZ 24 (by decide) (by kernel_rfl) rfl w.heap.size _ (lfL ls hs i) rfl HLA.out _ (⟨px, py, hz⟩ : Or.P3) rfl HNP.out HLN.out HSZ2.out ?_; intro v1 w1 ho1 hb1))
        have HO1 := Lib.hid (show OwX 52 w1 w.heap.size v1 (lfL ls hs (i + 1)) by rw [HSU2.out]; exact ho1)
        have HB1 := Lib.hid (HBL.out.trans (show Below w.heap.size _ w1 from hb1))
        clear ho1 hb1 n0 n1 m0 m1 HNP HLA HBL HLN HSU2 hby
        go_wp2
        go_roundw
        case rel => exact ⟨i + 1, by go_num, by omega, HO1.out, HB1.out⟩
        case measure => simp [intOf]; omega
      · have hz0 := hho (by omega)
        rw [hz0] at hsu
        have hA2 := below_al (wr.alloc (.cells #[.int .i64 px, .int .i64 py] 42)) (.cells #[.int .i64 px, .int .i64 py, .int .i64 0] 52)
        have HNP := Lib.hid (new_sp2 wr (.cells #[.int .i64 px, .int .i64 py] 42) ⟨px, py, 0⟩ 52)
        have HLA := Lib.hid ((hO.out.later hA).later hA2)
        have HSZ2 := Lib.hid (show w.heap.size ≤ ((wr.alloc (.cells #[.int .i64 px, .int .i64 py] 42)).alloc (.cells #[.int .i64 px, .int .i64 py, .int .i64 0] 52)).heap.size from Nat.le_trans hB.out.size (Nat.le_trans hA.size hA2.size))
        have HBL := Lib.hid ((hB.out.nx hA).nx hA2)
        have HLN := Lib.hid hll
        have HSU2 := Lib.hid hsu
        have hlb2 : ¬ (i : Int) < (hs.length : Int) := by omega
        clear hpa hsu hll hhb hho hof hA hA2 hO hB hz0
        go_wp2_with (at_builtin; go_loud (refine wpList_app_row rfl _ _ 50 52 rfl Tryz.underlying50 spZ 24 (by decide) (by kernel_rfl) rfl w.heap.size _ (lfL ls hs i) rfl HLA.out _ (⟨px, py, 0⟩ : Or.P3) rfl HNP.out HLN.out HSZ2.out ?_; intro v1 w1 ho1 hb1))
        have HO1 := Lib.hid (show OwX 52 w1 w.heap.size v1 (lfL ls hs (i + 1)) by rw [HSU2.out]; exact ho1)
        have HB1 := Lib.hid (HBL.out.trans (show Below w.heap.size _ w1 from hb1))
        clear ho1 hb1 n0 n1 m0 m1 HNP HLA HBL HLN HSU2
        go_wp2
        go_roundw
        case rel => exact ⟨i + 1, by go_num, by omega, HO1.out, HB1.out⟩
        case measure => simp [intOf]; omega
    · obtain rfl : i = ls.length := by omega
      have HSL := Lib.hid hO.out.sl
      clear hO HHB HHO HSU HBY HLL HOF
      go_wp2_with fail
      ((with_reducible refine (HUP.out _ _ hB.out HSL.out).mono ?_); rintro e t1 ⟨rfl, q1⟩)
      have D1 := (hB.out.nx q1).nx (below_al t1 (.cells #[.int .i64 (i1 : Int), .int .i64 (j1 : Int), .int .i64 (k1 : Int)] 57))
      clear q1 hB HSL HUP
      go_upto_region 13 with fail
      generalize t1.alloc (.cells #[.int .i64 (i1 : Int), .int .i64 (j1 : Int), .int .i64 (k1 : Int)] 57) = x1 at *
      have HB3 := Lib.hid D1
      clear D1
      go_wp2_with fail
      go_loopw [12, 75] (fun sb si wr => ∃ (i : Nat) (o : Option Rat), sb = .string ⟨(optT o).toArray⟩ ∧ si = .int .i64 (i : Int) ∧ i ≤ ls.length ∧ Hid (LfD ls i 0 o) ∧ Hid (Below w.heap.size w wr)) (fun _ si _ => ls.length - (intOf si).toNat)
      case atStart => exact ⟨0, none, rfl, rfl, Nat.zero_le _, HL0.out, HB3.out⟩
      case round =>
        clear HB3 HL0
        obtain ⟨i, o, rfl, rfl, hi, hf, hB⟩ := hrel
        by_cases hlt : i < ls.length
        · rename World => wr
          have hp1 := HRR.out _ hB.out i hlt
          have HMI2 := Lib.hid (fun j hj => HMI.out i j hlt hj)
          have HAL2 := Lib.hid (fun j hj => HAL.out i j hlt hj)
          have HSZ2 := Lib.hid (fun j hj => HSZ.out i j hlt hj)
          have HLE2 := Lib.hid (fun j o => HLE.out i j o)
          have HLS2 := Lib.hid (fun j o h hj => HLS.out i j o h hlt hj)
          have HSO2 := Lib.hid (fun j o => HSO.out i j o)
          generalize St.at_ ls i = p at *
          obtain ⟨px, py⟩ := p
          have hA := below_al wr (.cells #[.int .i64 px, .int .i64 py] 42)
          have HPN := Lib.hid (heap_alloc_new wr (.cells #[.int .i64 px, .int .i64 py] 42))
          have HBA := Lib.hid (hB.out.nx hA)
          obtain ⟨m0, m1⟩ := id hp1
          simp only at m0 m1
          clear hp1 hA hB
          go_wp2_with fail
          generalize wr.alloc (.cells #[.int .i64 px, .int .i64 py] 42) = W2 at *
          generalize wr.heap.size = gp at *
          clear m0 m1
          go_loopw [12, 81] (fun sb sj wr => ∃ (j : Nat) (o : Option Rat), sb = .string ⟨(optT o).toArray⟩ ∧ sj = .int .i64 (j : Int) ∧ j ≤ ls.length ∧ Hid (LfD ls i j o) ∧ Hid (Below w.heap.size w wr) ∧ Hid (wr.heap[gp]? = some (.cells #[.int .i64 px, .int .i64 py] 42 (0, 0)))) (fun _ sj _ => ls.length - (intOf sj).toNat)
          case atStart => exact ⟨0, o, rfl, rfl, Nat.zero_le _, hf.out, HBA.out, HPN.out⟩
          case round =>
            clear hf HBA HPN
            obtain ⟨j, o2, rfl, rfl, hj, hf, hB, hP⟩ := hrel
            by_cases hlt2 : j < ls.length
            · rename World => wq
              have hp2 := HRR.out _ hB.out j hlt2
              have hmi := HMI2.out j hlt2
              have hal := HAL2.out j hlt2
              have hsz := HSZ2.out j hlt2
              have hle := HLE2.out j o2 hf.out
              have hls := HLS2.out j o2 hf.out hlt2
              have hso := HSO2.out j o2 hf.out
              generalize St.at_ ls j = q at *
              obtain ⟨qx, qy⟩ := q
              have hA := below_al wq (.cells #[.int .i64 qx, .int .i64 qy] 42)
              obtain ⟨m0, m1⟩ := id hp2
              simp only at m0 m1
              have HP2 := Lib.hid (keepD hP.out hA)
              have HQ2 := Lib.hid (heap_alloc_new wq (.cells #[.int .i64 qx, .int .i64 qy] 42))
              have HB2 := Lib.hid (hB.out.nx hA)
              have hpe := pe px py qx qy
              rw [show (px == qx && py == qy) = decide ((⟨px, py⟩ : St.Pt) = ⟨qx, qy⟩) from pt_beq ⟨px, py⟩ ⟨qx, qy⟩] at hpe
              obtain ⟨f0, f1⟩ := c2row HP2.out
              obtain ⟨f2, f3⟩ := c2row HQ2.out
              by_cases he : (⟨px, py⟩ : St.Pt) = ⟨qx, qy⟩
              · rw [decide_eq_true he] at hpe
                have HLE3 := Lib.hid (hle he)
                clear hmi hal hsz hle hls hso hA hP hB hf hp2 he pe
                go_wp2
                go_roundw
                case rel => exact ⟨j + 1, o2, rfl, by go_num, by omega, HLE3.out, HB2.out, HP2.out⟩
                case measure => simp [intOf]; omega
              · rw [decide_eq_false he] at hpe
                have HLS3 := Lib.hid (hls he)
                obtain ⟨a, b, hall⟩ := hal he
                have hsz2 := hsz he
                have HQC2 := Lib.hid (HQC.out _ hsz2)
                have HOR2 := Lib.hid (fun m hm W => HOR.out _ m W hsz2 (hso m hm))
                generalize Or.along ls (St.sub ⟨px, py⟩ ⟨qx, qy⟩) = Q at *
                generalize St.sub ⟨px, py⟩ ⟨qx, qy⟩ = sb at *
                obtain ⟨sx, sy⟩ := sb
                have HAL3 := Lib.hid hall
                have HMI3 := Lib.hid hmi
                clear hmi hal hsz hle hls hso hA hP hB hf hp2 he pe hall hsz2
                cases o2 with
                | none =>
                  have HR1 := Lib.hid (show rtoa Q = optT (betO none Q) from rfl)
                  generalize hT : optT none = T at *
                  have e1 : (T == []) = true := by rw [← hT]; rfl
                  generalize rtoa Q = TQ at *
                  clear HOR2 hT
                  go_wp2_with fail
                  ((with_reducible refine (HMI3.out _).mono ?_); rintro e r1 ⟨rfl, g1⟩)
                  have HB3 := Lib.hid (HB2.out.nx g1)
                  have HP3 := Lib.hid (keepD HP2.out g1)
                  clear g1 HB2 HP2 HQ2 f0 f1 f2 f3 HMI3 m0 m1
                  go_wp2_with fail
                  ((with_reducible refine (HAL3.out _ HB3.out).mono ?_); rintro e r2 ⟨rfl, g2⟩)
                  have a2 := below_al r2 (.cells #[.int .i64 (a : Int), .int .i64 (b : Int)] 44)
                  have HB4 := Lib.hid ((HB3.out.nx g2).nx a2)
                  have HP4 := Lib.hid (keepD (keepD HP3.out g2) a2)
                  clear g2 a2 HB3 HP3 HAL3
                  go_upto_region 24 with fail
                  generalize r2.alloc (.cells #[.int .i64 (a : Int), .int .i64 (b : Int)] 44) = r3 at *
                  go_wp2_with fail
                  ((with_reducible refine (HQC2.out _).mono ?_); rintro e r4 ⟨rfl, g4⟩)
                  have HB5 := Lib.hid (HB4.out.nx g4)
                  have HP5 := Lib.hid (keepD HP4.out g4)
                  clear g4 HB4 HP4 HQC2
                  go_wp2
                  go_roundw
                  case rel => exact ⟨j + 1, betO none Q, by rw [← HR1.out], by go_num, by omega, HLS3.out, HB5.out, HP5.out⟩
                  case measure => simp [intOf]; omega
                | some m =>
                  have HR1 := Lib.hid (show Q < m → rtoa Q = optT (betO (some m) Q) from fun h => by unfold betO; simp only; rw [if_pos h]; rfl)
                  have HR2 := Lib.hid (show ¬ Q < m → optT (some m) = optT (betO (some m) Q) from fun h => by unfold betO; simp only; rw [if_neg h])
                  have HO3 := Lib.hid (show ∀ W, Calls Tryz.prog 49 #[.string ⟨(rtoa Q).toArray⟩, .string ⟨(optT (some m)).toArray⟩] W _ from HOR2.out m rfl)
                  have hlt3 := cmpQ_lt Q m
                  generalize hT : optT (some m) = T at *
                  have e1 : (T == []) = false := by rw [← hT]; exact rtoa_ne m
                  generalize rtoa Q = TQ at *
                  generalize cmpQ Q m = cm at *
                  have HLT3 := Lib.hid hlt3
                  clear HOR2 hT hlt3
                  go_wp2_with fail
                  ((with_reducible refine (HMI3.out _).mono ?_); rintro e r1 ⟨rfl, g1⟩)
                  have HB3 := Lib.hid (HB2.out.nx g1)
                  have HP3 := Lib.hid (keepD HP2.out g1)
                  clear g1 HB2 HP2 HQ2 f0 f1 f2 f3 HMI3 m0 m1
                  go_wp2_with fail
                  ((with_reducible refine (HAL3.out _ HB3.out).mono ?_); rintro e r2 ⟨rfl, g2⟩)
                  have a2 := below_al r2 (.cells #[.int .i64 (a : Int), .int .i64 (b : Int)] 44)
                  have HB4 := Lib.hid ((HB3.out.nx g2).nx a2)
                  have HP4 := Lib.hid (keepD (keepD HP3.out g2) a2)
                  clear g2 a2 HB3 HP3 HAL3
                  go_upto_region 24 with fail
                  generalize r2.alloc (.cells #[.int .i64 (a : Int), .int .i64 (b : Int)] 44) = r3 at *
                  go_wp2_with fail
                  ((with_reducible refine (HQC2.out _).mono ?_); rintro e r4 ⟨rfl, g4⟩)
                  have HB5 := Lib.hid (HB4.out.nx g4)
                  have HP5 := Lib.hid (keepD HP4.out g4)
                  clear g4 HB4 HP4 HQC2
                  go_wp2_with fail
                  ((with_reducible refine (HO3.out _).mono ?_); rintro e r5 ⟨rfl, g5⟩)
                  have HB6 := Lib.hid (HB5.out.nx g5)
                  have HP6 := Lib.hid (keepD HP5.out g5)
                  clear g5 HB5 HP5 HO3
                  by_cases hc : cm < 0
                  · have hq : Q < m := by have := HLT3.out; rw [decide_eq_true hc] at this; exact of_decide_eq_true this.symm
                    have HR3 := Lib.hid (HR1.out hq)
                    clear HR1 HR2 hq HLT3
                    go_wp2
                    go_roundw
                    case rel => exact ⟨j + 1, betO (some m) Q, by rw [← HR3.out], by go_num, by omega, HLS3.out, HB6.out, HP6.out⟩
                    case measure => simp [intOf]; omega
                  · have hq : ¬ Q < m := by have := HLT3.out; rw [decide_eq_false hc] at this; exact of_decide_eq_false this.symm
                    have HR3 := Lib.hid (HR2.out hq)
                    clear HR1 HR2 hq HLT3
                    go_wp2
                    go_roundw
                    case rel => exact ⟨j + 1, betO (some m) Q, by rw [← HR3.out], by go_num, by omega, HLS3.out, HB6.out, HP6.out⟩
                    case measure => simp [intOf]; omega
            · obtain rfl : j = ls.length := by omega
              have HF2 := Lib.hid (HLR.out i o2 hf.out)
              clear hf
              go_wp2
              go_roundw
              case rel => exact ⟨i + 1, o2, rfl, by go_num, by omega, HF2.out, hB.out⟩
              case measure => simp [intOf]; omega
        · obtain rfl : i = ls.length := by omega
          have hlo := HLO.out o hf.out
          generalize optT o = TB at *
          have hB9 := hB.out
          clear HLO hf hB HMI HAL HSZ HLE HLS HSO HLR
          cases ea : (TX == TB) with
          | true =>
            clear hlo
            go_wp2_with fail
            ((with_reducible refine (HAW.out _ hB9).mono ?_); rintro e r9 ⟨rfl, g9⟩)
            have hB10 := hB9.nx g9
            go_wp2
            go_ret
            exact ⟨rfl, hB10⟩
          | false =>
            rw [ea, Bool.false_or, Bool.and_eq_true] at hlo
            obtain ⟨eb, ec⟩ := hlo
            go_wp2_with fail
            ((with_reducible refine (HAW.out _ hB9).mono ?_); rintro e r9 ⟨rfl, g9⟩)
            have hB10 := hB9.nx g9
            go_wp2
            go_ret
            exact ⟨rfl, hB10⟩
end Go.Proofs.Wk
