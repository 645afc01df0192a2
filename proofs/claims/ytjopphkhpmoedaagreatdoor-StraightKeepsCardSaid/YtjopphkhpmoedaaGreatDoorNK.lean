/- STRAIGHTNESS: the width and a tolerance. -/
import Derived.Test.YtjopphkhpmoedaaGreatDoorNJ
namespace Go.Proofs.Wk
open Go.RowKit Mt

theorem bsQ_wid (ls : List St.Pt) : bsQ ls (St.least ls) = St.wid ls := by unfold St.wid; cases St.least ls <;> rfl
def tolE (t : Int) : Int := if 0 ≤ t ∧ t ≤ 100000 then 0 else 2
theorem tolerance_c (t : Int) (w : World) : Calls Tryz.prog 47 #[.int .i64 t] w (Pur w (.int .i64 (tolE t))) := by
  unfold tolE
  rcases (by omega : t < 0 ∨ (0 ≤ t ∧ t ≤ 100000) ∨ 100000 < t) with h | ⟨h, h'⟩ | h
  · rw [if_neg (by omega)]
    go_enter Tryz.func47, Tryz.ntmps47; go_wp2; go_ret; exact ⟨rfl, rfl⟩
  · rw [if_pos (by omega)]
    go_enter Tryz.func47, Tryz.ntmps47; go_wp2; go_ret; exact ⟨rfl, rfl⟩
  · rw [if_neg (by omega)]
    go_enter Tryz.func47, Tryz.ntmps47; go_wp2; go_ret; exact ⟨rfl, rfl⟩
theorem rTol_c (t : Int) (w : World) : Calls Tryz.prog 50 #[.int .i64 t] w (Pur w (.bool (decide (0 ≤ t ∧ t ≤ 100000)))) := by
  rcases (by omega : t < 0 ∨ (0 ≤ t ∧ t ≤ 100000) ∨ 100000 < t) with h | ⟨h, h'⟩ | h
  · rw [decide_eq_false (by omega)]
    go_enter Tryz.func50, Tryz.ntmps50; go_wp2; go_ret; refine ⟨ret_bool ?_, rfl⟩; first | rfl | (simp; done) | (simp; omega)
  · rw [decide_eq_true (by omega)]
    go_enter Tryz.func50, Tryz.ntmps50; go_wp2; go_ret; refine ⟨ret_bool ?_, rfl⟩; first | rfl | (simp; done) | (simp; omega)
  · rw [decide_eq_false (by omega)]
    go_enter Tryz.func50, Tryz.ntmps50; go_wp2; go_ret; refine ⟨ret_bool ?_, rfl⟩; first | rfl | (simp; done) | (simp; omega)
theorem wid_sz {ls : List St.Pt} (hin : ∀ p ∈ ls, St.InP p) : szQ (St.wid ls) 24 := by
  cases q : St.least ls with
  | none => unfold St.wid; rw [q]; exact szQ_zero.mono (by decide)
  | some x =>
    obtain ⟨h1, h2, h3, h4, h5, h6, h7⟩ := St.least_pair q
    have hx : St.wid ls = St.wv ls x := by unfold St.wid; rw [q]
    rw [hx, h5]
    exact prf_sz hin (by omega) h2 h4
theorem sq_bd {t : Int} (h : 0 ≤ t ∧ t ≤ 100000) : 0 ≤ t * t ∧ t * t ≤ 10000000000 := by
  have := St.mul_bd (x := t) (y := t) (k := 100000) (m := 100000) (by omega) (by omega)
  have h2 := St.sq_nonneg t
  omega
theorem sq_sz {t : Int} (h : 0 ≤ t ∧ t ≤ 100000) : szQ ((t * t : Int) : Rat) 24 := szQ_int (by decide) (by
  have := sq_bd h
  have e : (10000000000 : Nat) < 10 ^ 24 := by decide
  omega)
theorem keeps_not (ls : List St.Pt) (t : Int) : (!decide (((t * t : Int) : Rat) < St.wid ls)) = St.keeps ls t := by
  unfold St.keeps
  rw [Bool.eq_iff_iff, Bool.not_eq_true', decide_eq_false_iff_not, decide_eq_true_eq, Rat.not_lt]
set_option maxRecDepth 100000 in
set_option maxHeartbeats 2000000 in
theorem keeps_c {v : Value} (ls : List St.Pt) (t : Int) (w : World) (hg : Good w) (S : SlX w v ls) (hin : ∀ p ∈ ls, St.InP p) (h0 : 0 < ls.length) (hn : ls.length ≤ 64) (ht : 0 ≤ t ∧ t ≤ 100000) :
    Calls Tryz.prog 48 #[v, .int .i64 t] w (Ret w (.bool (St.keeps ls t))) := by
  have HLE := Lib.hid (least_c ls w hg S hin h0 hn)
  rw [bsQ_wid] at HLE
  have hb := sq_bd ht
  have HWH := Lib.hid (fun W (h : Below w.heap.size w W) => qWhole_c (t * t) W (hg.later h) (by omega) (by omega))
  have hLS := fun W (h : Below w.heap.size w W) => sless_c ((t * t : Int) : Rat) (St.wid ls) W (hg.later h) ((sq_sz ht).mono (by decide)) ((wid_sz hin).mono (by decide))
  rw [rtoa_int] at hLS
  have HLS := Lib.hid hLS
  obtain ⟨tt, hq⟩ : ∃ tt, t * t = tt := ⟨_, rfl⟩
  have hw : IntKind.i64.wrap (t * t) = tt := wr hq (by omega)
  rw [← keeps_not]
  obtain ⟨sa, cap, rfl⟩ := S.len
  generalize decide (((t * t : Int) : Rat) < St.wid ls) = B at *
  generalize rtoa (St.wid ls) = T at *
  rw [hq] at HWH HLS
  generalize Lib.itoa tt = T2 at *
  generalize stP (St.least ls) = x at *
  obtain ⟨xi, xj, xa, xf⟩ := x
  clear S hin hLS hb ht hg hq
  go_enter Tryz.func48, Tryz.ntmps48
  go_wp2_with fail
  ((with_reducible refine (HLE.out).mono ?_); rintro e w1 ⟨rfl, hb1⟩)
  have hB2 := hb1.nx (below_al w1 (.cells #[.int .i64 (xi : Int), .int .i64 (xj : Int), .int .i64 xa, .int .i64 (xf : Int)] 88))
  go_wp2_with fail
  ((with_reducible refine (HWH.out _ hB2).mono ?_); rintro e w3 ⟨rfl, hb3⟩)
  have hB3 := hB2.nx hb3
  go_wp2_with fail
  ((with_reducible refine (HLS.out _ hB3).mono ?_); rintro e w4 ⟨rfl, hb4⟩)
  have hB4 := hB3.nx hb4
  go_wp2
  go_ret
  exact ⟨rfl, hB4⟩
set_option maxRecDepth 100000 in
set_option maxHeartbeats 2000000 in
theorem rKeeps_c {v : Value} (ls : List St.Pt) (t : Int) (w : World) (S : SlX w v ls) (hin : ∀ p ∈ ls, St.InP p) (h0 : 0 < ls.length) (hn : ls.length ≤ 64) (ht : 0 ≤ t ∧ t ≤ 100000) :
    Calls Tryz.prog 51 #[v, .int .i64 t] w (Ret w (.bool (St.keeps ls t))) := by
  have HLE := Lib.hid (rLeast_c ls w S hin h0 hn)
  rw [bsQ_wid] at HLE
  have hb := sq_bd ht
  have HWH := Lib.hid (fun W => rWhole_q (t * t) W (by omega) (by omega))
  have hOR := fun W => Order_q (St.wid ls) ((t * t : Int) : Rat) W ((wid_sz hin).mono (by decide)) ((sq_sz ht).mono (by decide))
  rw [rtoa_int] at hOR
  have HOR := Lib.hid hOR
  obtain ⟨tt, hq⟩ : ∃ tt, t * t = tt := ⟨_, rfl⟩
  have hw : IntKind.i64.wrap (t * t) = tt := wr hq (by omega)
  have hk : St.keeps ls t = decide (cmpQ (St.wid ls) ((t * t : Int) : Rat) ≤ 0) := (cmpQ_le _ _).symm
  rw [hk]
  obtain ⟨sa, cap, rfl⟩ := S.len
  generalize cmpQ (St.wid ls) ((t * t : Int) : Rat) = o at *
  generalize rtoa (St.wid ls) = T at *
  rw [hq] at HWH HOR
  generalize Lib.itoa tt = T2 at *
  generalize bsI (St.least ls) = xi at *
  generalize bsJ (St.least ls) = xj at *
  generalize bsF (St.least ls) = xf at *
  clear S hin hOR hb ht hk hq
  go_enter Tryz.func51, Tryz.ntmps51
  go_wp2_with fail
  ((with_reducible refine (HLE.out).mono ?_); rintro e w1 ⟨rfl, hb1⟩)
  have hB2 := hb1.nx (below_al w1 (.cells #[.int .i64 (xi : Int), .int .i64 (xj : Int)] 47))
  go_wp2_with fail
  ((with_reducible refine (HWH.out _).mono ?_); rintro e w3 ⟨rfl, hb3⟩)
  have hB3 := hB2.nx hb3
  go_wp2_with fail
  ((with_reducible refine (HOR.out _).mono ?_); rintro e w4 ⟨rfl, hb4⟩)
  have hB4 := hB3.nx hb4
  go_wp2
  go_ret
  exact ⟨rfl, hB4⟩
/-- What Within returns. -/
def withE (ls : List St.Pt) (t : Int) : Bool × Int := if St.givP ls = 0 then (if 0 ≤ t ∧ t ≤ 100000 then (St.keeps ls t, 0) else (false, 2)) else (false, St.givP ls)
abbrev bint (r : Bool × Int) : Value := .tuple #[.bool r.1, .int .i64 r.2]
theorem withE_bad {ls : List St.Pt} {t : Int} (h : ¬ St.givP ls = 0) : withE ls t = (false, St.givP ls) := by unfold withE; rw [if_neg h]
theorem withE_out {ls : List St.Pt} {t : Int} (h : St.givP ls = 0) (h2 : ¬ (0 ≤ t ∧ t ≤ 100000)) : withE ls t = (false, 2) := by unfold withE; rw [if_pos h, if_neg h2]
theorem withE_ok {ls : List St.Pt} {t : Int} (h : St.givP ls = 0) (h2 : 0 ≤ t ∧ t ≤ 100000) : withE ls t = (St.keeps ls t, 0) := by unfold withE; rw [if_pos h, if_pos h2]
set_option maxRecDepth 100000 in
set_option maxHeartbeats 2000000 in
theorem Within_c {v : Value} (ls : List St.Pt) (t : Int) (w : World) (hg : Good w) (S : SlX w v ls) (hln : ls.length ≤ 140737488355328) : Calls Tryz.prog 12 #[v, .int .i64 t] w (Ret w (bint (withE ls t))) := by
  have HGV := Lib.hid (given_c ls w S hln)
  have HTL := Lib.hid (fun W => tolerance_c t W)
  obtain ⟨sa, cap, rfl⟩ := S.len
  by_cases h0 : St.givP ls = 0
  rotate_left
  · rw [withE_bad h0]
    generalize St.givP ls = E at *
    have z : (E != 0) = true := bne_iff_ne.2 h0
    clear h0 S hg
    go_enter Tryz.func12, Tryz.ntmps12
    go_wp2_with fail
    ((with_reducible refine (HGV.out).mono ?_); rintro e w1 ⟨rfl, hb1⟩)
    go_wp2
    go_ret2
    exact ⟨rfl, hb1⟩
  obtain ⟨i1, i2, i3⟩ := St.givP_in h0
  by_cases ht : 0 ≤ t ∧ t ≤ 100000
  rotate_left
  · rw [withE_out h0 ht]
    rw [h0] at HGV
    rw [show tolE t = 2 from if_neg ht] at HTL
    clear h0 S hg ht
    go_enter Tryz.func12, Tryz.ntmps12
    go_wp2_with fail
    ((with_reducible refine (HGV.out).mono ?_); rintro e w1 ⟨rfl, hb1⟩)
    go_wp2_with fail
    ((with_reducible refine (HTL.out _).mono ?_); rintro e w' ⟨rfl, rfl⟩)
    go_wp2
    go_ret2
    exact ⟨rfl, hb1⟩
  · rw [withE_ok h0 ht]
    rw [h0] at HGV
    rw [show tolE t = 0 from if_pos ht] at HTL
    have HK := Lib.hid (fun W (h : Below w.heap.size w W) => keeps_c ls t W (hg.later h) (S.later h) i3 i1 i2 ht)
    generalize St.keeps ls t = B at *
    clear h0 S hg ht
    go_enter Tryz.func12, Tryz.ntmps12
    go_wp2_with fail
    ((with_reducible refine (HGV.out).mono ?_); rintro e w1 ⟨rfl, hb1⟩)
    go_wp2_with fail
    ((with_reducible refine (HTL.out _).mono ?_); rintro e w' ⟨rfl, rfl⟩)
    go_wp2_with fail
    ((with_reducible refine (HK.out _ hb1).mono ?_); rintro e w2 ⟨rfl, hb2⟩)
    have hB2 := hb1.nx hb2
    go_wp2
    go_ret2
    exact ⟨rfl, hB2⟩
set_option maxRecDepth 100000 in
set_option maxHeartbeats 2000000 in
theorem rWithin_c {v : Value} (ls : List St.Pt) (t : Int) (w : World) (S : SlX w v ls) (hln : ls.length ≤ 140737488355328) : Calls Tryz.prog 13 #[v, .int .i64 t] w (Ret w (bint (withE ls t))) := by
  have HGV := Lib.hid (rGiven_c ls w S hln)
  have HTL := Lib.hid (fun W => rTol_c t W)
  obtain ⟨sa, cap, rfl⟩ := S.len
  by_cases h0 : St.givP ls = 0
  rotate_left
  · rw [withE_bad h0]
    generalize St.givP ls = E at *
    have z : (E != 0) = true := bne_iff_ne.2 h0
    clear h0 S
    go_enter Tryz.func13, Tryz.ntmps13
    go_wp2_with fail
    ((with_reducible refine (HGV.out).mono ?_); rintro e w1 ⟨rfl, hb1⟩)
    go_wp2
    go_ret2
    exact ⟨rfl, hb1⟩
  obtain ⟨i1, i2, i3⟩ := St.givP_in h0
  by_cases ht : 0 ≤ t ∧ t ≤ 100000
  rotate_left
  · rw [withE_out h0 ht]
    rw [h0] at HGV
    rw [decide_eq_false ht] at HTL
    clear h0 S ht
    go_enter Tryz.func13, Tryz.ntmps13
    go_wp2_with fail
    ((with_reducible refine (HGV.out).mono ?_); rintro e w1 ⟨rfl, hb1⟩)
    go_wp2_with fail
    ((with_reducible refine (HTL.out _).mono ?_); rintro e w' ⟨rfl, rfl⟩)
    go_wp2
    go_ret2
    exact ⟨rfl, hb1⟩
  · rw [withE_ok h0 ht]
    rw [h0] at HGV
    rw [decide_eq_true ht] at HTL
    have HK := Lib.hid (fun W (h : Below w.heap.size w W) => rKeeps_c ls t W (S.later h) i3 i1 i2 ht)
    generalize St.keeps ls t = B at *
    clear h0 S ht
    go_enter Tryz.func13, Tryz.ntmps13
    go_wp2_with fail
    ((with_reducible refine (HGV.out).mono ?_); rintro e w1 ⟨rfl, hb1⟩)
    go_wp2_with fail
    ((with_reducible refine (HTL.out _).mono ?_); rintro e w' ⟨rfl, rfl⟩)
    go_wp2_with fail
    ((with_reducible refine (HK.out _ hb1).mono ?_); rintro e w2 ⟨rfl, hb2⟩)
    have hB2 := hb1.nx hb2
    go_wp2
    go_ret2
    exact ⟨rfl, hB2⟩
end Go.Proofs.Wk
/- STRAIGHTNESS: points chosen by their indices; lists of ints that are equal. -/
namespace Go.Proofs.Wk
open Go.RowKit Mt

abbrev ptZ : Value := .agg #[.int .i64 0, .int .i64 0]
theorem new_pt (W : World) (p : St.Pt) (t : TypeId) : ∀ j, j < Row.k St.Pt → (W.alloc (.cells #[.int .i64 p.x, .int .i64 p.y] t)).cell? ⟨W.heap.size, j, none⟩ = (Row.enc p)[j]? := fun j hj => by
  rw [cell_of_row _ _ _ _ _ _ (heap_alloc_new W _)]
  match j, hj with
  | 0, _ => rfl
  | 1, _ => rfl
theorem new_nat (W : World) (n : Nat) (t : TypeId) : ∀ j, j < Row.k Nat → (W.alloc (.cells #[.int .i64 (n : Int)] t)).cell? ⟨W.heap.size, j, none⟩ = (Row.enc n)[j]? := fun j hj => by
  rw [cell_of_row _ _ _ _ _ _ (heap_alloc_new W _)]
  match j, hj with
  | 0, _ => rfl
theorem chosen_step {ls : List St.Pt} {xs : List Nat} {i : Nat} (hi : i < xs.length) : St.chosen ls (xs.take (i + 1)) = St.chosen ls (xs.take i) ++ [St.at_ ls xs[i]] := by
  unfold St.chosen
  rw [List.take_succ_eq_append_getElem hi, List.map_append]; rfl
/-- A slice of points that a call has made. -/
def NewP (w : World) (ms : List St.Pt) (e : Ending) (w' : World) : Prop := ∃ v, e = .returned v ∧ SlX w' v ms ∧ Below w.heap.size w w'
set_option maxRecDepth 100000 in
set_option maxHeartbeats 2000000 in
theorem rChosen_c {v u : Value} (ls : List St.Pt) (xs : List Nat) (w : World) (S : SlX w v ls) (T : SlX w u xs) (hx : ∀ i ∈ xs, i < ls.length) (hn : ls.length ≤ 1000) (hm : xs.length ≤ 1000) :
    Calls Tryz.prog 26 #[v, u] w (NewP w (St.chosen ls xs)) := by
  refine T.cases _ ?_ ?_
  · rintro a cap rfl rfl
    obtain ⟨sa, scap, rfl⟩ := S.len
    go_enter Tryz.func26, Tryz.ntmps26
    go_wp2_with fail
    refine wp_loop_rounds 1 ?_
    rw [rounds_succ]
    go_wp2
    go_ret
    exact ⟨_, rfl, .inl ⟨none, 0, rfl, rfl⟩, Below.refl _ _⟩
  rintro b2 off2 cap2 rfl hp2 hR2 hb2
  refine S.cases _ ?_ ?_
  · rintro a cap rfl rfl
    have := hx xs[0] (List.getElem_mem hp2)
    simp at this
  rintro b off cap rfl hp hR hb
  have HR := Lib.hid (fun (W : World) (h : Below w.heap.size w W) (k : Nat) (hk : k < ls.length) => (hR.later h hb).ptAt hk)
  have HR2 := Lib.hid (fun (W : World) (h : Below w.heap.size w W) (k : Nat) (hk : k < xs.length) => (hR2.later h hb2).nat hk)
  have HX := Lib.hid (fun (k : Nat) (hk : k < xs.length) => hx xs[k] (List.getElem_mem hk))
  have HST := Lib.hid (fun (i : Nat) (hi : i < xs.length) => chosen_step (ls := ls) hi)
  have HFI := Lib.hid (show St.chosen ls (xs.take xs.length) = St.chosen ls xs by rw [List.take_length])
  have HLN := Lib.hid (fun (i : Nat) (hi : i ≤ xs.length) => show (St.chosen ls (xs.take i)).length = i by rw [St.chosen_len, List.length_take]; omega)
  generalize St.chosen ls xs = ms at *
  clear hR hR2 hx S T
  go_enter Tryz.func26, Tryz.ntmps26
  go_wp2_with fail
  go_loopw [5, 6] (fun sv si wr => ∃ i : Nat, si = .int .i64 (i : Int) ∧ i ≤ xs.length ∧ Hid (OwX 37 wr w.heap.size sv (St.chosen ls (xs.take i))) ∧ Below w.heap.size w wr) (fun _ si _ => xs.length - (intOf si).toNat)
  case atStart => exact ⟨0, rfl, Nat.zero_le _, OwX.nil _ _ _, Below.refl _ _⟩
  case round =>
    obtain ⟨i, rfl, hi, hO, hB⟩ := hrel
    by_cases hlt : i < xs.length
    · have k0 := HR2.out _ hB i hlt
      have hxi := HX.out i hlt
      have hst := HST.out i hlt
      have hln := HLN.out i (by omega)
      generalize xs[i] = x at *
      have hpp := HR.out _ hB x hxi
      generalize St.at_ ls x = p at *
      obtain ⟨px, py⟩ := p
      have l0 := hpp.c0
      have l1 := hpp.c1
      have HAL := Lib.hid (below_al wr (.cells #[.int .i64 px, .int .i64 py] 37))
      have HNP := Lib.hid (new_pt wr ⟨px, py⟩ 37)
      have HSZ := Lib.hid (show w.heap.size ≤ (wr.alloc (.cells #[.int .i64 px, .int .i64 py] 37)).heap.size from Nat.le_trans hB.size HAL.out.size)
      have HLL := Lib.hid (show ((St.chosen ls (xs.take i)).length + 1) * 16 ≤ 140737488355328 by rw [hln]; omega)
      have HS2 := Lib.hid hst
      simp only at l0 l1
      clear hst hln hpp
      go_wp2_with (at_builtin; refine wpList_app_row rfl _ _ 22 37 rfl Tryz.underlying22 ptZ 16 (by decide) (by kernel_rfl) rfl w.heap.size _ (St.chosen ls (xs.take i)) rfl (hO.out.later HAL.out) _ (⟨px, py⟩ : St.Pt) rfl HNP.out HLL.out HSZ.out ?_; intro v1 w1 ho1 hb1)
      have HO1 := Lib.hid ho1
      have HB1 := Lib.hid ((hB.trans (HAL.out.mono hB.size)).trans (show Below w.heap.size _ w1 from hb1))
      clear ho1 hb1 k0 l0 l1
      go_wp2
      go_roundw
      case rel => exact ⟨i + 1, by go_num, by omega, by rw [HS2.out]; exact HO1.out, HB1.out⟩
      case measure => simp [intOf]; omega
    · obtain rfl : i = xs.length := by omega
      have ho := hO.out
      rw [HFI.out] at ho
      clear HST HLN hO
      go_wp2
      go_ret
      exact ⟨_, rfl, ho.sl, hB⟩
end Go.Proofs.Wk
/- STRAIGHTNESS: lists of ints that are equal. -/
namespace Go.Proofs.Wk
open Go.RowKit Mt

def nA (xs : List Nat) (i : Nat) : Nat := xs.getD i 0
theorem nA_get {xs : List Nat} {i : Nat} (h : i < xs.length) : nA xs i = xs[i] := by unfold nA; rw [List.getD_eq_getElem?_getD, List.getElem?_eq_getElem h]; rfl
theorem RX.nA {w : World} {b off : Nat} {ls : List Nat} (h : RX w b off ls) {i : Nat} (hi : i < ls.length) : w.cell? ⟨b, off + i, none⟩ = some (.int .i64 (nA ls i : Int)) := by rw [nA_get hi]; exact h.nat hi
theorem eq_of_nA {xs ys : List Nat} (hl : xs.length = ys.length) (h : ∀ k, k < xs.length → nA xs k = nA ys k) : xs = ys :=
  List.ext_getElem hl fun i h1 h2 => by rw [← nA_get h1, ← nA_get h2]; exact h i h1
theorem SlX.lenN {w : World} {v : Value} {ls : List Nat} (S : SlX w v ls) : ∃ a cap, v = .slice a ls.length cap := by
  rcases S with ⟨a, cap, rfl, rfl⟩ | ⟨b, off, cap, rfl, -, -⟩
  · exact ⟨a, cap, rfl⟩
  · exact ⟨_, cap, rfl⟩
set_option maxRecDepth 100000 in
set_option maxHeartbeats 2000000 in
theorem rSameInts_c {v u : Value} (xs ys : List Nat) (w : World) (S : SlX w v xs) (T : SlX w u ys) (hn : xs.length ≤ 1000) (hm : ys.length ≤ 1000) : Calls Tryz.prog 16 #[v, u] w (Ret w (.bool (decide (xs = ys)))) := by
  obtain ⟨sa, scap, hv⟩ := S.lenN
  obtain ⟨ta, tcap, hu⟩ := T.lenN
  by_cases hl : xs.length = ys.length
  rotate_left
  · rw [decide_eq_false (fun e => hl (by rw [e]))]
    subst hv hu
    have z : ((xs.length : Int) != (ys.length : Int)) = true := bne_iff_ne.2 (by omega)
    clear S T
    generalize xs.length = n at *
    generalize ys.length = m at *
    go_enter Tryz.func16, Tryz.ntmps16
    go_wp2
    go_ret
    exact ⟨rfl, Below.refl _ _⟩
  have HBAD := Lib.hid (show ∀ k, k < xs.length → nA xs k ≠ nA ys k → decide (xs = ys) = false from fun k _ h => decide_eq_false fun e => h (by rw [e]))
  have HOK := Lib.hid (show (∀ k, k < xs.length → nA xs k = nA ys k) → decide (xs = ys) = true from fun h => decide_eq_true (eq_of_nA hl h))
  generalize decide (xs = ys) = B at *
  clear hv hu
  refine S.cases _ ?_ ?_
  · rintro a cap rfl rfl
    obtain rfl : B = true := HOK.out fun k hk => by simp at hk
    refine T.cases _ ?_ ?_
    · rintro a2 cap2 rfl rfl
      go_enter Tryz.func16, Tryz.ntmps16
      go_wp2_with fail
      refine wp_loop_rounds 1 ?_
      rw [rounds_succ]
      go_wp2
      go_ret
      exact ⟨rfl, Below.refl _ _⟩
    · rintro b2 off2 cap2 rfl hp2 - -
      simp at hl
      omega
  rintro b off cap rfl hp hR hb
  refine T.cases _ ?_ ?_
  · rintro a2 cap2 rfl rfl
    rw [List.length_nil] at hl
    omega
  rintro b2 off2 cap2 rfl hp2 hR2 hb2
  have HR := Lib.hid (fun (W : World) (h : Below w.heap.size w W) (k : Nat) (hk : k < xs.length) => (hR.later h hb).nA hk)
  have HR2 := Lib.hid (fun (W : World) (h : Below w.heap.size w W) (k : Nat) (hk : k < xs.length) => (hR2.later h hb2).nA (ls := ys) (hl ▸ hk))
  clear hR hR2 S T
  obtain ⟨n, hnn⟩ : ∃ n, xs.length = n := ⟨_, rfl⟩
  rw [← hl]
  rw [hnn] at hp hn HR HR2 HBAD HOK ⊢
  clear hl hm hp2
  have z0 : ((n : Int) != (n : Int)) = false := by simp
  go_enter Tryz.func16, Tryz.ntmps16
  go_wp2_with fail
  go_loopw [5] (fun si wr => ∃ i : Nat, si = .int .i64 (i : Int) ∧ i ≤ n ∧ Hid (∀ k, k < i → nA xs k = nA ys k) ∧ Below w.heap.size w wr) (fun si _ => n - (intOf si).toNat)
  case atStart => exact ⟨0, rfl, Nat.zero_le _, fun k hk => absurd hk (Nat.not_lt_zero _), Below.refl _ _⟩
  case round =>
    obtain ⟨i, rfl, hi, ha, hB⟩ := hrel
    by_cases hlt : i < n
    · have k0 := HR.out _ hB i hlt
      have k1 := HR2.out _ hB i hlt
      have hbad := HBAD.out i hlt
      have hstep : nA xs i = nA ys i → ∀ k, k < i + 1 → nA xs k = nA ys k := fun e k hk => by
        by_cases q : k = i
        · subst q; exact e
        · exact ha.out k (by omega)
      have HSTEP := Lib.hid hstep
      clear hstep
      generalize nA xs i = x at *
      generalize nA ys i = y at *
      by_cases e : x = y
      · have HST := Lib.hid (HSTEP.out e)
        subst e
        have z : ((x : Int) != (x : Int)) = false := by simp
        clear hbad HSTEP
        go_wp2_with fail
        go_quiet (fail)
        go_wp2
        go_roundw
        case rel => exact ⟨i + 1, by go_num, by omega, HST.out, ⟨hB.os, hB.tape, hB.output, hB.size, hB.block⟩⟩
        case measure => simp [intOf]; omega
      · obtain rfl : B = false := hbad e
        have z : ((x : Int) != (y : Int)) = true := bne_iff_ne.2 (by omega)
        clear hbad HSTEP HBAD HOK e
        go_wp2_with fail
        go_quiet (fail)
        go_wp2
        go_ret
        exact ⟨rfl, ⟨hB.os, hB.tape, hB.output, hB.size, hB.block⟩⟩
    · obtain rfl : i = n := by omega
      obtain rfl : B = true := HOK.out ha.out
      clear ha HBAD HOK
      go_wp2
      go_ret
      exact ⟨rfl, hB⟩
set_option maxRecDepth 100000 in
set_option maxHeartbeats 2000000 in
theorem Equal_c {v u : Value} (xs ys : List Nat) (w : World) (S : SlX w v xs) (T : SlX w u ys) (hn : xs.length ≤ 1000) (hm : ys.length ≤ 1000) : Calls Tryz.prog 45 #[v, u] w (Ret w (.bool (decide (xs = ys)))) := by
  obtain ⟨sa, scap, hv⟩ := S.lenN
  obtain ⟨ta, tcap, hu⟩ := T.lenN
  by_cases hl : xs.length = ys.length
  rotate_left
  · rw [decide_eq_false (fun e => hl (by rw [e]))]
    subst hv hu
    have z : ((xs.length : Int) != (ys.length : Int)) = true := bne_iff_ne.2 (by omega)
    clear S T
    generalize xs.length = n at *
    generalize ys.length = m at *
    go_enter Tryz.func45, Tryz.ntmps45
    go_wp2
    go_ret
    exact ⟨rfl, Below.refl _ _⟩
  have HBAD := Lib.hid (show ∀ k, k < xs.length → nA xs k ≠ nA ys k → decide (xs = ys) = false from fun k _ h => decide_eq_false fun e => h (by rw [e]))
  have HOK := Lib.hid (show (∀ k, k < xs.length → nA xs k = nA ys k) → decide (xs = ys) = true from fun h => decide_eq_true (eq_of_nA hl h))
  generalize decide (xs = ys) = B at *
  clear hv hu
  refine S.cases _ ?_ ?_
  · rintro a cap rfl rfl
    obtain rfl : B = true := HOK.out fun k hk => by simp at hk
    refine T.cases _ ?_ ?_
    · rintro a2 cap2 rfl rfl
      go_enter Tryz.func45, Tryz.ntmps45
      go_wp2_with fail
      refine wp_loop_rounds 1 ?_
      rw [rounds_succ]
      go_wp2
      go_ret
      exact ⟨rfl, Below.refl _ _⟩
    · rintro b2 off2 cap2 rfl hp2 - -
      simp at hl
      omega
  rintro b off cap rfl hp hR hb
  refine T.cases _ ?_ ?_
  · rintro a2 cap2 rfl rfl
    rw [List.length_nil] at hl
    omega
  rintro b2 off2 cap2 rfl hp2 hR2 hb2
  have HR := Lib.hid (fun (W : World) (h : Below w.heap.size w W) (k : Nat) (hk : k < xs.length) => (hR.later h hb).nA hk)
  have HR2 := Lib.hid (fun (W : World) (h : Below w.heap.size w W) (k : Nat) (hk : k < xs.length) => (hR2.later h hb2).nA (ls := ys) (hl ▸ hk))
  clear hR hR2 S T
  obtain ⟨n, hnn⟩ : ∃ n, xs.length = n := ⟨_, rfl⟩
  rw [← hl]
  rw [hnn] at hp hn HR HR2 HBAD HOK ⊢
  clear hl hm hp2
  have z0 : ((n : Int) != (n : Int)) = false := by simp
  go_enter Tryz.func45, Tryz.ntmps45
  go_wp2_with fail
  go_loopw [13] (fun si wr => ∃ i : Nat, si = .int .i64 (i : Int) ∧ i ≤ n ∧ Hid (∀ k, k < i → nA xs k = nA ys k) ∧ Below w.heap.size w wr) (fun si _ => n - (intOf si).toNat)
  case atStart => exact ⟨0, rfl, Nat.zero_le _, fun k hk => absurd hk (Nat.not_lt_zero _), Below.refl _ _⟩
  case round =>
    obtain ⟨i, rfl, hi, ha, hB⟩ := hrel
    by_cases hlt : i < n
    · have k0 := HR.out _ hB i hlt
      have k1 := HR2.out _ hB i hlt
      have hbad := HBAD.out i hlt
      have hstep : nA xs i = nA ys i → ∀ k, k < i + 1 → nA xs k = nA ys k := fun e k hk => by
        by_cases q : k = i
        · subst q; exact e
        · exact ha.out k (by omega)
      have HSTEP := Lib.hid hstep
      clear hstep
      generalize nA xs i = x at *
      generalize nA ys i = y at *
      by_cases e : x = y
      · have HST := Lib.hid (HSTEP.out e)
        subst e
        have z : ((x : Int) != (x : Int)) = false := by simp
        clear hbad HSTEP
        go_wp2_with fail
        go_quiet (fail)
        go_wp2
        go_roundw
        case rel => exact ⟨i + 1, by go_num, by omega, HST.out, ⟨hB.os, hB.tape, hB.output, hB.size, hB.block⟩⟩
        case measure => simp [intOf]; omega
      · obtain rfl : B = false := hbad e
        have z : ((x : Int) != (y : Int)) = true := bne_iff_ne.2 (by omega)
        clear hbad HSTEP HBAD HOK e
        go_wp2_with fail
        go_quiet (fail)
        go_wp2
        go_ret
        exact ⟨rfl, ⟨hB.os, hB.tape, hB.output, hB.size, hB.block⟩⟩
    · obtain rfl : i = n := by omega
      obtain rfl : B = true := HOK.out ha.out
      clear ha HBAD HOK
      go_wp2
      go_ret
      exact ⟨rfl, hB⟩
end Go.Proofs.Wk
