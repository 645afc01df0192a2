/- SQUARENESS: the iterator over the supporting pairs. -/
import Derived.Test.YtenoganbeccanaaGreatDoorOH
import Derived.Test.YtenoganbeccanaaGreatDoorNF
import Derived.Test.YtenoganbeccanaaGreatDoorRng
import Derived.RangeFuncBound
import Derived.Shelf.Abstract
import Derived.Shelf.RegionOpen
import Derived.OwnWalkIn
import Derived.TacticsInMore
import Derived.LoopNIn
import Derived.LoopIn
import Derived.Test.YtenoganbeccanaaGreatDoorRG
import Derived.Deep.RegionHeld3
import Derived.Laws.EntriesVeiled
namespace Go.Proofs.Wk
open Go.RowKit Go.Rng Mt
attribute [local go_sem] Oper.semAt_some

section
variable {P : Program}
theorem run_loadVar_one (w : World) (g : Nat) (t ty : TypeId) (v : Value) (fr : Nat × Nat) (d : TypeDesc) (hg : w.heap[g]? = some (.cells #[v] t fr))
    (hu : P.underlying ty = some d) (hd : (match d with | .struct _ | .array _ _ => false | _ => true) = true) : (loadVar ty ⟨g, 0, none⟩).run P w = .ok v w := by
  have hagg : (isAgg ty).run P w = .ok false w := by
    unfold isAgg
    rw [Sem.run_bind, run_underlying hu w]
    cases d <;> simp_all
  have hc := c1row hg
  simp [loadVar, Sem.run_bind, hagg, hc]
theorem res_ccc {fn : Func} {p0 p1 p2 : Tmp} {t0 t1 t2 : TypeId} {tmps : Array Value} {w : World} {g0 g1 g2 : Nat} {v0 v2 : Value} {cs : Array Value} {T0 T1 T2 : TypeId} {f0 f1 f2 : Nat × Nat} {d0 d1 d2 : TypeDesc}
    (h : fn.results = #[.cell p0 t0, .cell p1 t1, .cell p2 t2]) (h0 : tmps.getD p0 undef = .pointer (some ⟨g0, 0, none⟩)) (h1 : tmps.getD p1 undef = .pointer (some ⟨g1, 0, none⟩)) (h2 : tmps.getD p2 undef = .pointer (some ⟨g2, 0, none⟩))
    (k0 : w.heap[g0]? = some (.cells #[v0] T0 f0)) (k1 : w.heap[g1]? = some (.cells cs T1 f1)) (k2 : w.heap[g2]? = some (.cells #[v2] T2 f2))
    (u0 : P.underlying t0 = some d0) (e0 : (match d0 with | .struct _ | .array _ _ => false | _ => true) = true)
    (u1 : P.underlying t1 = some d1) (e1 : (match d1 with | .struct _ | .array _ _ => true | _ => false) = true) (i1 : (P.info? t1).map (·.size) = some cs.size)
    (u2 : P.underlying t2 = some d2) (e2 : (match d2 with | .struct _ | .array _ _ => false | _ => true) = true) :
    (results fn tmps).run P w = .ok (.tuple #[v0, .agg cs, v2]) w := by
  rw [Array.getD_eq_getD_getElem?] at h0 h1 h2
  simp [results, h, h0, h1, h2, asAddr, Result.andThen, run_loadVar_one w g0 T0 t0 v0 f0 d0 k0 u0 e0, run_loadVar_row w g1 T1 t1 cs f1 d1 k1 u1 e1 i1, run_loadVar_one w g2 T2 t2 v2 f2 d2 k2 u2 e2]
end
set_option maxRecDepth 100000 in
theorem osmaller_c (p q : Rat) (w : World) (hg : Good w) (hp : szQ p 500) (hq : szQ q 500) : Calls Tryz.prog 147 #[.string ⟨(rtoa p).toArray⟩, .string ⟨(rtoa q).toArray⟩] w (Ret w (.tuple #[.bool (decide (p < q)), .int .i64 0])) := by
  have HC := Lib.hid (qCmpR p q w hg hp hq)
  have hl := cmpQ_lt p q
  generalize rtoa p = tp at *
  generalize rtoa q = tq at *
  generalize decide (p < q) = b at *
  generalize cmpQ p q = c at *
  clear hg hp hq
  go_enter Tryz.func147, Tryz.ntmps147
  go_wp2_with fail
  ((with_reducible refine HC.out.mono ?_); rintro e w1 ⟨rfl, hb1⟩)
  go_wp2
  go_ret2
  subst hl
  exact ⟨rfl, hb1⟩
def UpFn (v : Value) (d : Or.P3) (w : World) (e : Ending) (w' : World) : Prop := e = .returned (.func (.func 195) #[] #[.pointer (some ⟨w.heap.size, 0, none⟩), .pointer (some ⟨w.heap.size + 1, 0, none⟩)]) ∧ w' = (w.alloc (.cells #[v] 50)).alloc (.cells #[.int .i64 d.x, .int .i64 d.y, .int .i64 d.z] 52)
set_option maxRecDepth 100000 in
theorem supports_c (a : Option Addr) (n cap : Nat) (d : Or.P3) (w : World) : Calls Tryz.prog 146 #[.slice a n cap, spV d] w (UpFn (.slice a n cap) d w) := by
  obtain ⟨dx, dy, dz⟩ := d
  go_enter Tryz.func146, Tryz.ntmps146
  go_wp2
  go_ret
  exact ⟨rfl, rfl⟩
/-- A pair that the iterator yields. -/
structure OkU (ls : List Or.P3) (d : Or.P3) (x : Or.Sup) : Prop where
  i : x.i < ls.length
  j : x.j < ls.length
  ok : Or.okS ls d x.i x.j = true
  e : x = Or.sup ls d x.i x.j
theorem okU_mk {ls : List Or.P3} {d : Or.P3} {i j : Nat} (hi : i < ls.length) (hj : j < ls.length) (h : Or.okS ls d i j = true) : OkU ls d (Or.sup ls d i j) := by
  obtain ⟨e1, e2⟩ := Or.sup_ij ls d i j
  exact ⟨by rw [e1]; exact hi, by rw [e2]; exact hj, by rw [e1, e2]; exact h, by rw [e1, e2]⟩
/-- How the iterator ends, and how a round is answered. -/
def UpP (J : Option Or.Sup → World → Prop) (s : Option Or.Sup) (e : Ending) (w : World) : Prop := (∃ v, e = .returned v) ∧ J s w
def UpY (J : Option Or.Sup → World → Prop) (s : Option Or.Sup) (e : Ending) (w : World) : Prop := e = .returned (.bool true) ∧ J s w
theorem suppV_yes {ls : List Or.P3} {d : Or.P3} {i j : Nat} (h : Or.okS ls d i j = true) : suppV ls d i j = .tuple #[supV (Or.sup ls d i j) (nrm ls d (Or.sup ls d i j).i (Or.sup ls d i j).j), .bool true] := by
  rw [(Or.sup_ij ls d i j).1, (Or.sup_ij ls d i j).2]; exact if_pos h
theorem suppV_no {ls : List Or.P3} {d : Or.P3} {i j : Nat} (h : Or.okS ls d i j = false) : suppV ls d i j = .tuple #[supV ⟨0, 0, 0, 0⟩ ⟨0, 0, 0⟩, .bool false] := if_neg (by rw [h]; simp)
set_option maxRecDepth 100000 in
set_option maxHeartbeats 4000000 in
theorem supports_in {v : Value} (ls : List Or.P3) (d : Or.P3) (hin : ∀ p ∈ ls, InS p) (hd : InS d) (h0 : 0 < ls.length) (hn : ls.length ≤ 64) (c1 c2 l : Nat) (J : Option Or.Sup → World → Prop) (hJ : ∀ s W1 W2, J s W1 → Below W1.heap.size W1 W2 → J s W2)
    (hJc : ∀ s W1, J s W1 → W1.heap[c1]? = some (.cells #[v] 50 (0, 0)) ∧ W1.heap[c2]? = some (.cells #[.int .i64 d.x, .int .i64 d.y, .int .i64 d.z] 52 (0, 0)) ∧ SlX W1 v ls)
    (hgo : ∀ s x W1, OkU ls d x → J s W1 → YieldAt Fence.wide 0 Tryz.prog l #[supV x (nrm ls d x.i x.j)] W1 (UpY J (Or.bet ls d s x)))
    (s0 : Option Or.Sup) (W : World) (hj : J s0 W) :
    CallsIn Fence.wide 0 Tryz.prog 195 #[.func (.yield l) #[] #[], .pointer (some ⟨c1, 0, none⟩), .pointer (some ⟨c2, 0, none⟩)] W (UpP J (Or.upA ls d 0 s0)) := by
  obtain ⟨E, hE⟩ : ∃ E, Or.upA ls d 0 s0 = E := ⟨_, rfl⟩
  rw [hE]
  obtain ⟨sa, cap, rfl⟩ := (hJc _ _ hj).2.2.lenS
  have HE := Lib.hid hE
  have HJ0 := Lib.hid hj
  have HJS := Lib.hid hJ
  have HJC := Lib.hid hJc
  have HGO := Lib.hid hgo
  have HSUP := Lib.hid (fun (i j : Nat) (hi : i < ls.length) (hj : j < ls.length) (W : World) (S : SlX W (.slice sa ls.length cap) ls) => supported_c ls d i j W S hin hd hi hj hn)
  have HOKX := Lib.hid (fun (i j : Nat) (hi : i < ls.length) (hj : j < ls.length) (h : Or.okS ls d i j = true) => okU_mk hi hj h)
  have HY := Lib.hid (fun (i j : Nat) (h : Or.okS ls d i j = true) => suppV_yes h)
  have HN := Lib.hid (fun (i j : Nat) (h : Or.okS ls d i j = false) => suppV_no h)
  have HRY := Lib.hid (fun i j s (hj : j < ls.length) (o : Or.okS ls d i j = true) => Or.upR_yes (i := i) (s := s) hj o)
  have HRN := Lib.hid (fun i j s (hj : j < ls.length) (o : Or.okS ls d i j = false) => Or.upR_no (i := i) (s := s) hj o)
  have HRE := Lib.hid (fun i s => Or.upR_end (l := ls) (d := d) (i := i) (j := ls.length) (s := s) (Nat.le_refl _))
  have HAS := Lib.hid (fun i s (hi : i < ls.length) => Or.upA_step (d := d) (s := s) hi)
  have HAE := Lib.hid (fun s => Or.upA_end (l := ls) (d := d) (i := ls.length) (s := s) (Nat.le_refl _))
  have c0 := c1row (hJc _ _ hj).1
  clear hE hj hJ hJc hgo hin hd
  refine callsIn_of_wp Tryz.func195 rfl trivial ?_
  simp only [Tryz.ntmps195, List.size_toArray, List.length_cons, List.length_nil, Nat.reduceAdd, Nat.reduceSub, Array.replicate_succ, Array.replicate_zero, List.push_toArray, List.append_toArray, List.nil_append, List.cons_append]
  gi_wp2
  gi_loopw [10] (fun si wr => ∃ (i : Nat) (s : Option Or.Sup), si = .int .i64 (i : Int) ∧ i ≤ ls.length ∧ Hid (Or.upA ls d i s = E) ∧ Hid (J s wr)) (fun si _ => ls.length - (intOf si).toNat)
  case atStart => exact ⟨0, s0, rfl, Nat.zero_le _, HE.out, HJ0.out⟩
  case round =>
    obtain ⟨i, s, rfl, hi, hs, hjw⟩ := hrel
    by_cases hlt : i < ls.length
    · have HST := Lib.hid ((HAS.out i s hlt).symm.trans hs.out)
      clear hs c0
      gi_wp2_with fail
      gi_loopw [5] (fun sj wr => ∃ (j : Nat) (s : Option Or.Sup), sj = .int .i64 (j : Int) ∧ i < j ∧ j ≤ ls.length ∧ Hid (Or.upA ls d (i + 1) (Or.upR ls d i j s) = E) ∧ Hid (J s wr)) (fun sj _ => ls.length - (intOf sj).toNat)
      case atStart => exact ⟨i + 1, s, by go_num, by omega, by omega, HST.out, hjw.out⟩
      case round =>
        clear HST hjw
        obtain ⟨j, s2, rfl, hij, hj, hs2, hjw⟩ := hrel
        have c0 := c1row (HJC.out _ _ hjw.out).1
        obtain ⟨d0, d1, d2⟩ := c3row (HJC.out _ _ hjw.out).2.1
        by_cases hlt2 : j < ls.length
        · have HSP := Lib.hid (HSUP.out i j hlt hlt2)
          have HOX := Lib.hid (HOKX.out i j hlt hlt2)
          have HYY := Lib.hid (HY.out i j)
          have HNN := Lib.hid (HN.out i j)
          have hry := HRY.out i j s2 hlt2
          have hrn := HRN.out i j s2 hlt2
          have hst2 := hs2.out
          clear hs2
          cases hok : Or.okS ls d i j with
          | false =>
            rw [hrn hok] at hst2
            have HST2 := Lib.hid hst2
            have hsv := HNN.out hok
            generalize suppV ls d i j = sv at *
            subst hsv
            clear hst2 hok HOX hry hrn HYY HNN
            gi_wp2_with fail
            refine ⟨trivial, rfl, ?_⟩
            refine (callsIn_wide.2 (HSP.out _ (HJC.out _ _ hjw.out).2.2)).mono ?_
            rintro e w2 ⟨rfl, hb2⟩
            have HJ2 := Lib.hid (HJS.out _ _ _ (HJS.out _ _ _ hjw.out hb2) (below_al w2 (.cells (supC ⟨0, 0, 0, 0⟩ ⟨0, 0, 0⟩) 146)))
            clear hjw hb2 c0 d0 d1 d2
            gi_wp2_with fail
            refine ⟨fun f hf => (by cases hf), ?_⟩
            gi_wp2
            go_roundw
            case rel => exact ⟨j + 1, s2, by go_num, by omega, by omega, HST2.out, HJ2.out⟩
            case measure => simp [intOf]; omega
          | true =>
            rw [hry hok] at hst2
            have HST2 := Lib.hid hst2
            have hsv := HYY.out hok
            generalize suppV ls d i j = sv at *
            subst hsv
            have hox := HOX.out hok
            clear hst2 hok HOX hry hrn HYY HNN
            generalize Or.sup ls d i j = x at *
            have hgx := fun W1 hj1 => HGO.out s2 x W1 hox hj1
            generalize Or.bet ls d s2 x = s3 at *
            generalize nrm ls d x.i x.j = n at *
            obtain ⟨xi, xj, xf, xa⟩ := x
            obtain ⟨nx, ny, nz⟩ := n
            have HGX := Lib.hid hgx
            clear hgx hox
            gi_wp2_with fail
            refine ⟨trivial, rfl, ?_⟩
            refine (callsIn_wide.2 (HSP.out _ (HJC.out _ _ hjw.out).2.2)).mono ?_
            rintro e w2 ⟨rfl, hb2⟩
            have hj2 := HJS.out _ _ _ (HJS.out _ _ _ hjw.out hb2) (below_al w2 (.cells (supC ⟨xi, xj, xf, xa⟩ ⟨nx, ny, nz⟩) 146))
            obtain ⟨fn, tmps, assign, body, hy, hRd⟩ := HGX.out _ hj2
            have HRD := Lib.hid hRd
            clear hRd hj2 hjw hb2 c0 d0 d1 d2 HGX
            gi_wp2_with fail
            refine ⟨rfl, ?_⟩
            refine HRD.out.mono ?_
            rintro e w3 ⟨rfl, hj3⟩
            have HJ3 := Lib.hid hj3
            clear hj3 HRD hy
            gi_wp2
            go_roundw
            case rel => exact ⟨j + 1, s3, by go_num, by omega, by omega, HST2.out, HJ3.out⟩
            case measure => simp [intOf]; omega
        · obtain rfl : j = ls.length := by omega
          have hs3 := hs2.out
          rw [HRE.out i s2] at hs3
          have HS3 := Lib.hid hs3
          clear hs3 hs2
          gi_wp2
          go_roundw
          case rel => exact ⟨i + 1, s2, by go_num, by omega, HS3.out, hjw.out⟩
          case measure => simp [intOf]; omega
    · obtain rfl : i = ls.length := by omega
      have hs := hs.out
      rw [HAE.out s] at hs
      subst hs
      clear HE
      gi_wp2
      refine bodyPost_ret (results_none rfl _ _ _) rfl ?_
      exact ⟨⟨_, rfl⟩, hjw.out⟩
end Go.Proofs.Wk
/- SQUARENESS: the least upright zone, in the program. -/
namespace Go.Proofs.Wk
open Go.RowKit Go.Rng Mt
attribute [local go_sem] Oper.semAt_some

abbrev prC (i j k : Nat) : Array Value := #[.int .i64 (i : Int), .int .i64 (j : Int), .int .i64 (k : Int)]
/-- The best width till now, as a text. -/
def uT (ls : List Or.P3) (d : Or.P3) : Option Or.Sup → Txt | none => [] | some x => rtoa (Or.sv ls d x)
theorem okU_sv {ls : List Or.P3} {d : Or.P3} {x : Or.Sup} (h : OkU ls d x) : sqd x.far (nrm ls d x.i x.j) = Or.sv ls d x := by
  rw [h.e, (Or.sup_ij ls d x.i x.j).1, (Or.sup_ij ls d x.i x.j).2]; exact sv_sqd ls d x.i x.j
theorem okU_ne {ls : List Or.P3} {d : Or.P3} {x : Or.Sup} (h : OkU ls d x) : nrm ls d x.i x.j ≠ ⟨0, 0, 0⟩ := by
  have hl : ls ≠ [] := by rintro rfl; have := h.i; simp at this
  exact ((Or.okS_iff hl).1 h.ok).1
theorem okU_far {ls : List Or.P3} {d : Or.P3} {x : Or.Sup} (hd : InS d) (hin : ∀ p ∈ ls, InS p) (h : OkU ls d x) : -24000000000000000 ≤ x.far ∧ x.far ≤ 24000000000000000 := by
  rw [h.e]; exact sup_bd hd hin h.i h.j
theorem okU_sz {ls : List Or.P3} {d : Or.P3} {x : Or.Sup} (hd : InS d) (hin : ∀ p ∈ ls, InS p) (h : OkU ls d x) : szQ (Or.sv ls d x) 42 := by
  rw [← okU_sv h]
  have hf := okU_far hd hin h
  exact szQ_divInt (Nat.le_trans (lngVV (by omega)) (by decide)) (lng_dotV ((nrm_bd hd hin h.i h.j).mono (by decide))) (dot_nz (okU_ne h))
/-- What lies in memory while the pairs are ranged over. -/
structure UpG (d : Or.P3) (v : Value) (w W : World) (t : Txt) (i j k : Nat) (lp : Obj) : Prop where
  q0 : W.heap[w.heap.size]? = some (.cells #[.int .i64 d.x, .int .i64 d.y, .int .i64 d.z] 52 (0, 0))
  rx : W.heap[w.heap.size + 1]? = some (.cells #[.string ⟨#[]⟩] 22 (0, 0))
  rp : W.heap[w.heap.size + 2]? = some (.cells #[.int .i64 0, .int .i64 0, .int .i64 0] 57 (0, 0))
  re : W.heap[w.heap.size + 3]? = some (.cells #[.int .i64 0] 29 (0, 0))
  b : W.heap[w.heap.size + 4]? = some (.cells #[.string ⟨t.toArray⟩] 22 (0, 0))
  o : W.heap[w.heap.size + 5]? = some (.cells (prC i j k) 57 (0, 0))
  c : W.heap[w.heap.size + 6]? = some (.cells #[v] 50 (0, 0))
  q7 : W.heap[w.heap.size + 7]? = some (.cells #[.int .i64 d.x, .int .i64 d.y, .int .i64 d.z] 52 (0, 0))
  f : W.heap[w.heap.size + 8]? = some (.deferred (some []))
  lp : W.heap[w.heap.size + 9]? = some lp
  w : Below w.heap.size w W
section
variable {d : Or.P3} {v : Value} {w W : World} {t : Txt} {i j k : Nat} {lp : Obj}
theorem UpG.later {W' : World} (h : UpG d v w W t i j k lp) (hb : Below W.heap.size W W') : UpG d v w W' t i j k lp := ⟨keepD h.q0 hb, keepD h.rx hb, keepD h.rp hb, keepD h.re hb, keepD h.b hb, keepD h.o hb, keepD h.c hb, keepD h.q7 hb, keepD h.f hb, keepD h.lp hb, h.w.nx hb⟩
theorem UpG.drew (h : UpG d v w W t i j k lp) : UpG d v w W.drew t i j k lp := ⟨h.q0, h.rx, h.rp, h.re, h.b, h.o, h.c, h.q7, h.f, h.lp, h.w.drew⟩
theorem UpG.put (h : UpG d v w W t i j k lp) (o : Obj) : UpG d v w (W.putObj (w.heap.size + 9) o) t i j k o := by
  have l1 := (Array.getElem?_eq_some_iff.1 h.lp).1
  refine ⟨?_, ?_, ?_, ?_, ?_, ?_, ?_, ?_, ?_, World.putObj_heap_same l1, pob h.w (by omega) _⟩
  · rw [World.putObj_heap_other (by omega)]; exact h.q0
  · rw [World.putObj_heap_other (by omega)]; exact h.rx
  · rw [World.putObj_heap_other (by omega)]; exact h.rp
  · rw [World.putObj_heap_other (by omega)]; exact h.re
  · rw [World.putObj_heap_other (by omega)]; exact h.b
  · rw [World.putObj_heap_other (by omega)]; exact h.o
  · rw [World.putObj_heap_other (by omega)]; exact h.c
  · rw [World.putObj_heap_other (by omega)]; exact h.q7
  · rw [World.putObj_heap_other (by omega)]; exact h.f
theorem UpG.setB (h : UpG d v w W t i j k lp) (t' : Txt) : UpG d v w (W.setCell ⟨w.heap.size + 4, 0, none⟩ (.string ⟨t'.toArray⟩)) t' i j k lp :=
  ⟨(heap_setCell_other _ _ _ _ (show w.heap.size ≠ w.heap.size + 4 by omega)).trans h.q0, (heap_setCell_other _ _ _ _ (show w.heap.size + 1 ≠ w.heap.size + 4 by omega)).trans h.rx, (heap_setCell_other _ _ _ _ (show w.heap.size + 2 ≠ w.heap.size + 4 by omega)).trans h.rp, (heap_setCell_other _ _ _ _ (show w.heap.size + 3 ≠ w.heap.size + 4 by omega)).trans h.re, s1row h.b, (heap_setCell_other _ _ _ _ (show w.heap.size + 5 ≠ w.heap.size + 4 by omega)).trans h.o, (heap_setCell_other _ _ _ _ (show w.heap.size + 6 ≠ w.heap.size + 4 by omega)).trans h.c, (heap_setCell_other _ _ _ _ (show w.heap.size + 7 ≠ w.heap.size + 4 by omega)).trans h.q7, (heap_setCell_other _ _ _ _ (show w.heap.size + 8 ≠ w.heap.size + 4 by omega)).trans h.f, (heap_setCell_other _ _ _ _ (show w.heap.size + 9 ≠ w.heap.size + 4 by omega)).trans h.lp, h.w.cel (p := ⟨w.heap.size + 4, 0, none⟩) (Nat.le_add_right _ _) _⟩
theorem UpG.setO (h : UpG d v w W t i j k lp) (i' j' k' : Nat) : UpG d v w (((W.setCell ⟨w.heap.size + 5, 0, none⟩ (.int .i64 (i' : Int))).setCell ⟨w.heap.size + 5, 1, none⟩ (.int .i64 (j' : Int))).setCell ⟨w.heap.size + 5, 2, none⟩ (.int .i64 (k' : Int))) t i' j' k' lp :=
  ⟨(o3row (show w.heap.size ≠ w.heap.size + 5 by omega)).trans h.q0, (o3row (show w.heap.size + 1 ≠ w.heap.size + 5 by omega)).trans h.rx, (o3row (show w.heap.size + 2 ≠ w.heap.size + 5 by omega)).trans h.rp, (o3row (show w.heap.size + 3 ≠ w.heap.size + 5 by omega)).trans h.re, (o3row (show w.heap.size + 4 ≠ w.heap.size + 5 by omega)).trans h.b, s3row h.o, (o3row (show w.heap.size + 6 ≠ w.heap.size + 5 by omega)).trans h.c, (o3row (show w.heap.size + 7 ≠ w.heap.size + 5 by omega)).trans h.q7, (o3row (show w.heap.size + 8 ≠ w.heap.size + 5 by omega)).trans h.f, (o3row (show w.heap.size + 9 ≠ w.heap.size + 5 by omega)).trans h.lp, b3row h.w (Nat.le_add_right _ _)⟩
end
structure UpI (ls : List Or.P3) (d : Or.P3) (v : Value) (w W : World) (s : Option Or.Sup) (lp : Obj) : Prop where
  g : UpG d v w W (uT ls d s) (Or.prI s) (Or.prJ s) (Or.prK s) lp
  ok : ∀ y, s = some y → OkU ls d y
theorem UpI.later {ls : List Or.P3} {d : Or.P3} {v : Value} {w W W' : World} {s : Option Or.Sup} {lp : Obj} (h : UpI ls d v w W s lp) (hb : Below W.heap.size W W') : UpI ls d v w W' s lp := ⟨h.g.later hb, h.ok⟩
theorem UpI.put {ls : List Or.P3} {d : Or.P3} {v : Value} {w W : World} {s : Option Or.Sup} {lp : Obj} (h : UpI ls d v w W s lp) (o : Obj) : UpI ls d v w (W.putObj (w.heap.size + 9) o) s o := ⟨h.g.put o, h.ok⟩
open Go.Once
/-- What the operations yield that store a better one. -/
def u13R (w : World) (R : Txt) (gx xi xj xa : Nat) : Nat → Value → World → Prop
  | 0, u, _ => u = .string ⟨R.toArray⟩
  | 1, u, _ => u = .pointer (some ⟨gx, 0, none⟩)
  | 2, u, _ => u = .int .i64 (xi : Int)
  | 3, u, _ => u = .pointer (some ⟨gx, 1, none⟩)
  | 4, u, _ => u = .int .i64 (xj : Int)
  | 5, u, _ => u = .pointer (some ⟨gx, 3, none⟩)
  | 6, u, _ => u = .int .i64 (xa : Int)
  | 7, u, _ => u = .agg (prC xi xj xa)
  | 8, _, W => W.heap[w.heap.size + 4]? = some (.cells #[.string ⟨R.toArray⟩] 22 (0, 0))
  | 9, _, W => W.heap[w.heap.size + 5]? = some (.cells (prC xi xj xa) 57 (0, 0))
  | _, _, _ => True
def u13T (w : World) (R : Txt) (xi xj xa : Nat) (W W' : World) : Prop := (W.heap[w.heap.size + 4]? = some (.cells #[.string ⟨R.toArray⟩] 22 (0, 0)) → W'.heap[w.heap.size + 4]? = some (.cells #[.string ⟨R.toArray⟩] 22 (0, 0))) ∧
  (W.heap[w.heap.size + 5]? = some (.cells (prC xi xj xa) 57 (0, 0)) → W'.heap[w.heap.size + 5]? = some (.cells (prC xi xj xa) 57 (0, 0)))
theorem u13T_refl (w : World) (R : Txt) (xi xj xa : Nat) (W : World) : u13T w R xi xj xa W W := ⟨id, id⟩
theorem u13_keep (w : World) (R : Txt) (gx xi xj xa : Nat) : ∀ i u W W', u13R w R gx xi xj xa i u W → u13T w R xi xj xa W W' → u13R w R gx xi xj xa i u W' := by
  intro i u W W' h hT
  match i, h with
  | 0, h => exact h
  | 1, h => exact h
  | 2, h => exact h
  | 3, h => exact h
  | 4, h => exact h
  | 5, h => exact h
  | 6, h => exact h
  | 7, h => exact h
  | 8, h => exact hT.1 h
  | 9, h => exact hT.2 h
  | _ + 10, _ => trivial
def u13J (d : Or.P3) (v : Value) (w : World) (lp : Obj) (gx xi xj : Nat) (xf : Int) (xa : Nat) (nx ny nz : Int) (W : World) : Prop := W.heap[gx]? = some (.cells #[.int .i64 (xi : Int), .int .i64 (xj : Int), .int .i64 xf, .int .i64 (xa : Int), .int .i64 nx, .int .i64 ny, .int .i64 nz] 146 (0, 0)) ∧ ∃ t i j k, UpG d v w W t i j k lp
section
variable {d : Or.P3} {v : Value} {w : World} {lp : Obj} {R : Txt} {gx xi xj xa : Nat} {xf nx ny nz : Int} {a0 : Act}
set_option maxRecDepth 100000 in
theorem u13_0 (hsz : a0.tmps.size = 58) (h10 : a0.tmps[10]?.getD undef = .string ⟨R.toArray⟩) : ∀ o, (opsOf Tryz.f100 13)[0]? = some o → StepN Tryz.prog (opsOf Tryz.f100 13) 10 a0 (u13R w R gx xi xj xa) (u13J d v w lp gx xi xj xf xa nx ny nz) (u13T w R xi xj xa) 0 o := by
  intro o ho
  have hop : o.op = .move (.tmp 10) := atO (f := (·.op)) ho (by kernel_rfl)
  have hgd : o.guard = none := atO (f := (·.guard)) ho (by kernel_rfl)
  refine Step.val (n := 58) hsz (by kernel_rfl) fun vs w1 b hJ hD hS => ⟨by simp [Region.wanted, hgd], .string ⟨R.toArray⟩, w1, ?_, rfl, hJ, u13T_refl _ _ _ _ _ _⟩
  have e10 := (hS.rest 10 (atO (f := fun o => (depsN (opsOf Tryz.f100 13) 10 o).all fun j => dstOf (opsOf Tryz.f100 13) j != some 10) ho (by kernel_rfl))).trans h10
  simp [execOp, hop, go_sem, e10]
set_option maxRecDepth 100000 in
theorem u13_1 (hsz : a0.tmps.size = 58) (h9 : a0.tmps[9]?.getD undef = .pointer (some ⟨gx, 0, none⟩)) : ∀ o, (opsOf Tryz.f100 13)[1]? = some o → StepN Tryz.prog (opsOf Tryz.f100 13) 10 a0 (u13R w R gx xi xj xa) (u13J d v w lp gx xi xj xf xa nx ny nz) (u13T w R xi xj xa) 1 o := by
  intro o ho
  have hop : o.op = .fieldAddr 146 (.tmp 9) 0 := atO (f := (·.op)) ho (by kernel_rfl)
  have hgd : o.guard = none := atO (f := (·.guard)) ho (by kernel_rfl)
  refine Step.val (n := 58) hsz (by kernel_rfl) fun vs w1 b hJ hD hS => ⟨by simp [Region.wanted, hgd], .pointer (some ⟨gx, 0, none⟩), w1, ?_, rfl, hJ, u13T_refl _ _ _ _ _ _⟩
  have e9 := (hS.rest 9 (atO (f := fun o => (depsN (opsOf Tryz.f100 13) 10 o).all fun j => dstOf (opsOf Tryz.f100 13) j != some 9) ho (by kernel_rfl))).trans h9
  simp [execOp, hop, go_sem, e9]
set_option maxRecDepth 100000 in
theorem u13_3 (hsz : a0.tmps.size = 58) (h9 : a0.tmps[9]?.getD undef = .pointer (some ⟨gx, 0, none⟩)) : ∀ o, (opsOf Tryz.f100 13)[3]? = some o → StepN Tryz.prog (opsOf Tryz.f100 13) 10 a0 (u13R w R gx xi xj xa) (u13J d v w lp gx xi xj xf xa nx ny nz) (u13T w R xi xj xa) 3 o := by
  intro o ho
  have hop : o.op = .fieldAddr 146 (.tmp 9) 1 := atO (f := (·.op)) ho (by kernel_rfl)
  have hgd : o.guard = none := atO (f := (·.guard)) ho (by kernel_rfl)
  refine Step.val (n := 58) hsz (by kernel_rfl) fun vs w1 b hJ hD hS => ⟨by simp [Region.wanted, hgd], .pointer (some ⟨gx, 1, none⟩), w1, ?_, rfl, hJ, u13T_refl _ _ _ _ _ _⟩
  have e9 := (hS.rest 9 (atO (f := fun o => (depsN (opsOf Tryz.f100 13) 10 o).all fun j => dstOf (opsOf Tryz.f100 13) j != some 9) ho (by kernel_rfl))).trans h9
  simp [execOp, hop, go_sem, e9]
set_option maxRecDepth 100000 in
theorem u13_5 (hsz : a0.tmps.size = 58) (h9 : a0.tmps[9]?.getD undef = .pointer (some ⟨gx, 0, none⟩)) : ∀ o, (opsOf Tryz.f100 13)[5]? = some o → StepN Tryz.prog (opsOf Tryz.f100 13) 10 a0 (u13R w R gx xi xj xa) (u13J d v w lp gx xi xj xf xa nx ny nz) (u13T w R xi xj xa) 5 o := by
  intro o ho
  have hop : o.op = .fieldAddr 146 (.tmp 9) 3 := atO (f := (·.op)) ho (by kernel_rfl)
  have hgd : o.guard = none := atO (f := (·.guard)) ho (by kernel_rfl)
  refine Step.val (n := 58) hsz (by kernel_rfl) fun vs w1 b hJ hD hS => ⟨by simp [Region.wanted, hgd], .pointer (some ⟨gx, 3, none⟩), w1, ?_, rfl, hJ, u13T_refl _ _ _ _ _ _⟩
  have e9 := (hS.rest 9 (atO (f := fun o => (depsN (opsOf Tryz.f100 13) 10 o).all fun j => dstOf (opsOf Tryz.f100 13) j != some 9) ho (by kernel_rfl))).trans h9
  simp [execOp, hop, go_sem, e9]
set_option maxRecDepth 100000 in
theorem u13_2 (hsz : a0.tmps.size = 58) : ∀ o, (opsOf Tryz.f100 13)[2]? = some o → StepN Tryz.prog (opsOf Tryz.f100 13) 10 a0 (u13R w R gx xi xj xa) (u13J d v w lp gx xi xj xf xa nx ny nz) (u13T w R xi xj xa) 2 o := by
  intro o ho
  have hop : o.op = .load 3 (.tmp 46) := atO (f := (·.op)) ho (by kernel_rfl)
  have hgd : o.guard = none := atO (f := (·.guard)) ho (by kernel_rfl)
  refine Step.val (n := 58) hsz (by kernel_rfl) fun vs w1 b hJ hD hS => ⟨by simp [Region.wanted, hgd], .int .i64 (xi : Int), w1, ?_, rfl, hJ, u13T_refl _ _ _ _ _ _⟩
  have e46 := (hS.got 1 46 (atO (f := fun o => (depsN (opsOf Tryz.f100 13) 10 o).contains 1) ho (by kernel_rfl)) (by kernel_rfl) (by decide)).trans (hD 1 (depM (atO (f := fun o => (depsN (opsOf Tryz.f100 13) 10 o).contains 1) ho (by kernel_rfl))))
  obtain ⟨k0, k1, k2, k3, k4, k5, k6⟩ := c7row hJ.1
  simp [execOp, hop, go_sem, e46, k0]
set_option maxRecDepth 100000 in
theorem u13_4 (hsz : a0.tmps.size = 58) : ∀ o, (opsOf Tryz.f100 13)[4]? = some o → StepN Tryz.prog (opsOf Tryz.f100 13) 10 a0 (u13R w R gx xi xj xa) (u13J d v w lp gx xi xj xf xa nx ny nz) (u13T w R xi xj xa) 4 o := by
  intro o ho
  have hop : o.op = .load 3 (.tmp 48) := atO (f := (·.op)) ho (by kernel_rfl)
  have hgd : o.guard = none := atO (f := (·.guard)) ho (by kernel_rfl)
  refine Step.val (n := 58) hsz (by kernel_rfl) fun vs w1 b hJ hD hS => ⟨by simp [Region.wanted, hgd], .int .i64 (xj : Int), w1, ?_, rfl, hJ, u13T_refl _ _ _ _ _ _⟩
  have e48 := (hS.got 3 48 (atO (f := fun o => (depsN (opsOf Tryz.f100 13) 10 o).contains 3) ho (by kernel_rfl)) (by kernel_rfl) (by decide)).trans (hD 3 (depM (atO (f := fun o => (depsN (opsOf Tryz.f100 13) 10 o).contains 3) ho (by kernel_rfl))))
  obtain ⟨k0, k1, k2, k3, k4, k5, k6⟩ := c7row hJ.1
  simp [execOp, hop, go_sem, e48, k1]
set_option maxRecDepth 100000 in
theorem u13_6 (hsz : a0.tmps.size = 58) : ∀ o, (opsOf Tryz.f100 13)[6]? = some o → StepN Tryz.prog (opsOf Tryz.f100 13) 10 a0 (u13R w R gx xi xj xa) (u13J d v w lp gx xi xj xf xa nx ny nz) (u13T w R xi xj xa) 6 o := by
  intro o ho
  have hop : o.op = .load 3 (.tmp 50) := atO (f := (·.op)) ho (by kernel_rfl)
  have hgd : o.guard = none := atO (f := (·.guard)) ho (by kernel_rfl)
  refine Step.val (n := 58) hsz (by kernel_rfl) fun vs w1 b hJ hD hS => ⟨by simp [Region.wanted, hgd], .int .i64 (xa : Int), w1, ?_, rfl, hJ, u13T_refl _ _ _ _ _ _⟩
  have e50 := (hS.got 5 50 (atO (f := fun o => (depsN (opsOf Tryz.f100 13) 10 o).contains 5) ho (by kernel_rfl)) (by kernel_rfl) (by decide)).trans (hD 5 (depM (atO (f := fun o => (depsN (opsOf Tryz.f100 13) 10 o).contains 5) ho (by kernel_rfl))))
  obtain ⟨k0, k1, k2, k3, k4, k5, k6⟩ := c7row hJ.1
  simp [execOp, hop, go_sem, e50, k3]
set_option maxRecDepth 100000 in
theorem u13_7 (hsz : a0.tmps.size = 58) : ∀ o, (opsOf Tryz.f100 13)[7]? = some o → StepN Tryz.prog (opsOf Tryz.f100 13) 10 a0 (u13R w R gx xi xj xa) (u13J d v w lp gx xi xj xf xa nx ny nz) (u13T w R xi xj xa) 7 o := by
  intro o ho
  have hop : o.op = .build 57 #[(0, .tmp 47), (1, .tmp 49), (2, .tmp 51)] := atO (f := (·.op)) ho (by kernel_rfl)
  have hgd : o.guard = none := atO (f := (·.guard)) ho (by kernel_rfl)
  refine Step.val (n := 58) hsz (by kernel_rfl) fun vs w1 b hJ hD hS => ⟨by simp [Region.wanted, hgd], .agg (prC xi xj xa), w1, ?_, rfl, hJ, u13T_refl _ _ _ _ _ _⟩
  have e47 := (hS.got 2 47 (atO (f := fun o => (depsN (opsOf Tryz.f100 13) 10 o).contains 2) ho (by kernel_rfl)) (by kernel_rfl) (by decide)).trans (hD 2 (depM (atO (f := fun o => (depsN (opsOf Tryz.f100 13) 10 o).contains 2) ho (by kernel_rfl))))
  have e49 := (hS.got 4 49 (atO (f := fun o => (depsN (opsOf Tryz.f100 13) 10 o).contains 4) ho (by kernel_rfl)) (by kernel_rfl) (by decide)).trans (hD 4 (depM (atO (f := fun o => (depsN (opsOf Tryz.f100 13) 10 o).contains 4) ho (by kernel_rfl))))
  have e51 := (hS.got 6 51 (atO (f := fun o => (depsN (opsOf Tryz.f100 13) 10 o).contains 6) ho (by kernel_rfl)) (by kernel_rfl) (by decide)).trans (hD 6 (depM (atO (f := fun o => (depsN (opsOf Tryz.f100 13) 10 o).contains 6) ho (by kernel_rfl))))
  simp [execOp, hop, go_sem, e47, e49, e51]
set_option maxRecDepth 100000 in
theorem u13_8 (hsz : a0.tmps.size = 58) (h7 : a0.tmps[7]?.getD undef = .pointer (some ⟨w.heap.size + 4, 0, none⟩)) (hne : gx ≠ w.heap.size + 4 ∧ gx ≠ w.heap.size + 5) : ∀ o, (opsOf Tryz.f100 13)[8]? = some o → StepN Tryz.prog (opsOf Tryz.f100 13) 10 a0 (u13R w R gx xi xj xa) (u13J d v w lp gx xi xj xf xa nx ny nz) (u13T w R xi xj xa) 8 o := by
  intro o ho
  have hop : o.op = .store 22 (.tmp 7) (.tmp 45) := atO (f := (·.op)) ho (by kernel_rfl)
  have hgd : o.guard = none := atO (f := (·.guard)) ho (by kernel_rfl)
  refine Step.skip (n := 58) hsz (by kernel_rfl) fun vs w1 b hJ hD hS => ?_
  obtain ⟨hx, t, i, j, k, hG⟩ := hJ
  have hG2 := hG.setB R
  refine ⟨by simp [Region.wanted, hgd], w1.setCell ⟨w.heap.size + 4, 0, none⟩ (.string ⟨R.toArray⟩), ?_, hG2.b, ⟨(heap_setCell_other _ _ _ _ hne.1).trans hx, R, i, j, k, hG2⟩, fun _ => hG2.b, fun h => (heap_setCell_other _ _ _ _ (show w.heap.size + 5 ≠ w.heap.size + 4 by omega)).trans h⟩
  have e7 := (hS.rest 7 (atO (f := fun o => (depsN (opsOf Tryz.f100 13) 10 o).all fun j => dstOf (opsOf Tryz.f100 13) j != some 7) ho (by kernel_rfl))).trans h7
  have e45 := (hS.got 0 45 (atO (f := fun o => (depsN (opsOf Tryz.f100 13) 10 o).contains 0) ho (by kernel_rfl)) (by kernel_rfl) (by decide)).trans (hD 0 (depM (atO (f := fun o => (depsN (opsOf Tryz.f100 13) 10 o).contains 0) ho (by kernel_rfl))))
  have k0 := c1row hG.b
  have f0 := free_row hG.b 0
  simp [execOp, hop, go_sem, e7, e45, k0, f0]
set_option maxRecDepth 100000 in
theorem u13_9 (hsz : a0.tmps.size = 58) (h8 : a0.tmps[8]?.getD undef = .pointer (some ⟨w.heap.size + 5, 0, none⟩)) (hne : gx ≠ w.heap.size + 4 ∧ gx ≠ w.heap.size + 5) : ∀ o, (opsOf Tryz.f100 13)[9]? = some o → StepN Tryz.prog (opsOf Tryz.f100 13) 10 a0 (u13R w R gx xi xj xa) (u13J d v w lp gx xi xj xf xa nx ny nz) (u13T w R xi xj xa) 9 o := by
  intro o ho
  have hop : o.op = .store 57 (.tmp 8) (.tmp 52) := atO (f := (·.op)) ho (by kernel_rfl)
  have hgd : o.guard = none := atO (f := (·.guard)) ho (by kernel_rfl)
  refine Step.skip (n := 58) hsz (by kernel_rfl) fun vs w1 b hJ hD hS => ?_
  obtain ⟨hx, t, i, j, k, hG⟩ := hJ
  have hG2 := hG.setO xi xj xa
  refine ⟨by simp [Region.wanted, hgd], ((w1.setCell ⟨w.heap.size + 5, 0, none⟩ (.int .i64 (xi : Int))).setCell ⟨w.heap.size + 5, 1, none⟩ (.int .i64 (xj : Int))).setCell ⟨w.heap.size + 5, 2, none⟩ (.int .i64 (xa : Int)), ?_, hG2.o, ⟨(o3row hne.2).trans hx, t, xi, xj, xa, hG2⟩, fun h => (o3row (show w.heap.size + 4 ≠ w.heap.size + 5 by omega)).trans h, fun _ => hG2.o⟩
  have e8 := (hS.rest 8 (atO (f := fun o => (depsN (opsOf Tryz.f100 13) 10 o).all fun j => dstOf (opsOf Tryz.f100 13) j != some 8) ho (by kernel_rfl))).trans h8
  have e52 := (hS.got 7 52 (atO (f := fun o => (depsN (opsOf Tryz.f100 13) 10 o).contains 7) ho (by kernel_rfl)) (by kernel_rfl) (by decide)).trans (hD 7 (depM (atO (f := fun o => (depsN (opsOf Tryz.f100 13) 10 o).contains 7) ho (by kernel_rfl))))
  obtain ⟨k0, k1, k2⟩ := c3row hG.o
  have f0 := free_row hG.o 0
  have f1 := free_row hG.o 1
  have f2 := free_row hG.o 2
  simp [execOp, hop, go_sem, e8, e52, k0, k1, k2, f0, f1, f2]
theorem u13_steps (hsz : a0.tmps.size = 58) (h10 : a0.tmps[10]?.getD undef = .string ⟨R.toArray⟩) (h9 : a0.tmps[9]?.getD undef = .pointer (some ⟨gx, 0, none⟩)) (h7 : a0.tmps[7]?.getD undef = .pointer (some ⟨w.heap.size + 4, 0, none⟩)) (h8 : a0.tmps[8]?.getD undef = .pointer (some ⟨w.heap.size + 5, 0, none⟩)) (hne : gx ≠ w.heap.size + 4 ∧ gx ≠ w.heap.size + 5) : ∀ i o, i < ((opsOf Tryz.f100 13)).size → (opsOf Tryz.f100 13)[i]? = some o → StepN Tryz.prog (opsOf Tryz.f100 13) ((opsOf Tryz.f100 13)).size a0 (u13R w R gx xi xj xa) (u13J d v w lp gx xi xj xf xa nx ny nz) (u13T w R xi xj xa) i o := by
  rw [show ((opsOf Tryz.f100 13)).size = 10 by kernel_rfl]
  intro i o hi ho
  match i, hi, ho with
  | 0, _, ho => exact u13_0 hsz h10 o ho
  | 1, _, ho => exact u13_1 hsz h9 o ho
  | 2, _, ho => exact u13_2 hsz o ho
  | 3, _, ho => exact u13_3 hsz h9 o ho
  | 4, _, ho => exact u13_4 hsz o ho
  | 5, _, ho => exact u13_5 hsz h9 o ho
  | 6, _, ho => exact u13_6 hsz o ho
  | 7, _, ho => exact u13_7 hsz o ho
  | 8, _, ho => exact u13_8 hsz h7 hne o ho
  | 9, _, ho => exact u13_9 hsz h8 hne o ho
  | _ + 10, hi, _ => exact absurd hi (by omega)
end
theorem d13_0 : dstOf (opsOf Tryz.f100 13) 0 = some 45 := by kernel_rfl
theorem d13_1 : dstOf (opsOf Tryz.f100 13) 1 = some 46 := by kernel_rfl
theorem d13_2 : dstOf (opsOf Tryz.f100 13) 2 = some 47 := by kernel_rfl
theorem d13_3 : dstOf (opsOf Tryz.f100 13) 3 = some 48 := by kernel_rfl
theorem d13_4 : dstOf (opsOf Tryz.f100 13) 4 = some 49 := by kernel_rfl
theorem d13_5 : dstOf (opsOf Tryz.f100 13) 5 = some 50 := by kernel_rfl
theorem d13_6 : dstOf (opsOf Tryz.f100 13) 6 = some 51 := by kernel_rfl
theorem d13_7 : dstOf (opsOf Tryz.f100 13) 7 = some 52 := by kernel_rfl
theorem d13_8 : dstOf (opsOf Tryz.f100 13) 8 = none := by kernel_rfl
theorem d13_9 : dstOf (opsOf Tryz.f100 13) 9 = none := by kernel_rfl
theorem n13 : ((opsOf Tryz.f100 13)).size = 10 := by kernel_rfl
/-- Where the range begins. -/
structure UpS (d : Or.P3) (v : Value) (w W : World) : Prop where
  q0 : W.heap[w.heap.size]? = some (.cells #[.int .i64 d.x, .int .i64 d.y, .int .i64 d.z] 52 (0, 0))
  rx : W.heap[w.heap.size + 1]? = some (.cells #[.string ⟨#[]⟩] 22 (0, 0))
  rp : W.heap[w.heap.size + 2]? = some (.cells #[.int .i64 0, .int .i64 0, .int .i64 0] 57 (0, 0))
  re : W.heap[w.heap.size + 3]? = some (.cells #[.int .i64 0] 29 (0, 0))
  b : W.heap[w.heap.size + 4]? = some (.cells #[.string ⟨#[]⟩] 22 (0, 0))
  o : W.heap[w.heap.size + 5]? = some (.cells #[.int .i64 0, .int .i64 0, .int .i64 0] 57 (0, 0))
  c : W.heap[w.heap.size + 6]? = some (.cells #[v] 50 (0, 0))
  q7 : W.heap[w.heap.size + 7]? = some (.cells #[.int .i64 d.x, .int .i64 d.y, .int .i64 d.z] 52 (0, 0))
  size : W.heap.size = w.heap.size + 8
  w : Below w.heap.size w W
theorem al8 (w : World) (o0 o1 o2 o3 o4 o5 o6 o7 : Obj) : let W := ((((((((w.alloc o0).alloc o1).alloc o2).alloc o3).alloc o4).alloc o5).alloc o6).alloc o7); W.heap[w.heap.size]? = some o0 ∧ W.heap[w.heap.size + 1]? = some o1 ∧ W.heap[w.heap.size + 2]? = some o2 ∧ W.heap[w.heap.size + 3]? = some o3 ∧ W.heap[w.heap.size + 4]? = some o4 ∧ W.heap[w.heap.size + 5]? = some o5 ∧ W.heap[w.heap.size + 6]? = some o6 ∧ W.heap[w.heap.size + 7]? = some o7 ∧ W.heap.size = w.heap.size + 8 ∧ Below w.heap.size w W := by
  intro W
  obtain ⟨h0, h1, h2, h3, h4⟩ := al4 w o0 o1 o2 o3
  have s4 : ((((w.alloc o0).alloc o1).alloc o2).alloc o3).heap.size = w.heap.size + 4 := by simp
  obtain ⟨k0, k1, k2, k3, k4⟩ := al4 ((((w.alloc o0).alloc o1).alloc o2).alloc o3) o4 o5 o6 o7
  have hb : Below ((((w.alloc o0).alloc o1).alloc o2).alloc o3).heap.size ((((w.alloc o0).alloc o1).alloc o2).alloc o3) W := k4
  rw [s4] at k0 k1 k2 k3
  exact ⟨keepD h0 hb, keepD h1 hb, keepD h2 hb, keepD h3 hb, k0, k1, k2, k3, by simp [W], h4.nx hb⟩
theorem up_start (d : Or.P3) (v : Value) (w : World) : UpS d v w ((((((((w.alloc (.cells #[.int .i64 d.x, .int .i64 d.y, .int .i64 d.z] 52)).alloc (.cells #[.string ⟨#[]⟩] 22)).alloc (.cells #[.int .i64 0, .int .i64 0, .int .i64 0] 57)).alloc (.cells #[.int .i64 0] 29)).alloc (.cells #[.string ⟨#[]⟩] 22)).alloc (.cells #[.int .i64 0, .int .i64 0, .int .i64 0] 57)).alloc (.cells #[v] 50)).alloc (.cells #[.int .i64 d.x, .int .i64 d.y, .int .i64 d.z] 52)) := by
  obtain ⟨h0, h1, h2, h3, h4, h5, h6, h7, h8, h9⟩ := al8 w (.cells #[.int .i64 d.x, .int .i64 d.y, .int .i64 d.z] 52) (.cells #[.string ⟨#[]⟩] 22) (.cells #[.int .i64 0, .int .i64 0, .int .i64 0] 57) (.cells #[.int .i64 0] 29) (.cells #[.string ⟨#[]⟩] 22) (.cells #[.int .i64 0, .int .i64 0, .int .i64 0] 57) (.cells #[v] 50) (.cells #[.int .i64 d.x, .int .i64 d.y, .int .i64 d.z] 52)
  exact ⟨h0, h1, h2, h3, h4, h5, h6, h7, h8, h9⟩
/-- What is left at the end: the results' cells. -/
structure UpF (w W : World) (t : Txt) (i j k : Nat) : Prop where
  rx : W.heap[w.heap.size + 1]? = some (.cells #[.string ⟨t.toArray⟩] 22 (0, 0))
  rp : W.heap[w.heap.size + 2]? = some (.cells (prC i j k) 57 (0, 0))
  re : W.heap[w.heap.size + 3]? = some (.cells #[.int .i64 0] 29 (0, 0))
  f : W.heap[w.heap.size + 8]? = some (.deferred (some []))
  w : Below w.heap.size w W
theorem UpF.drew {w W : World} {t : Txt} {i j k : Nat} (h : UpF w W t i j k) : UpF w W.drew t i j k := ⟨h.rx, h.rp, h.re, h.f, h.w.drew⟩
theorem UpF.put {w W : World} {t : Txt} {i j k : Nat} (h : UpF w W t i j k) (o : Obj) : (W.putObj (w.heap.size + 8) o).heap[w.heap.size + 1]? = some (.cells #[.string ⟨t.toArray⟩] 22 (0, 0)) ∧
    (W.putObj (w.heap.size + 8) o).heap[w.heap.size + 2]? = some (.cells (prC i j k) 57 (0, 0)) ∧ (W.putObj (w.heap.size + 8) o).heap[w.heap.size + 3]? = some (.cells #[.int .i64 0] 29 (0, 0)) := by
  refine ⟨?_, ?_, ?_⟩
  · rw [World.putObj_heap_other (by omega)]; exact h.rx
  · rw [World.putObj_heap_other (by omega)]; exact h.rp
  · rw [World.putObj_heap_other (by omega)]; exact h.re
def uprV (ls : List Or.P3) (d : Or.P3) : Value := .tuple #[.string ⟨(rtoa (Or.wid ls d)).toArray⟩, .agg (prC (Or.prI (Or.least ls d)) (Or.prJ (Or.least ls d)) (Or.prK (Or.least ls d))), .int .i64 0]
theorem UpF.mk3 {w W W' : World} {t : Txt} {i j k : Nat} (h1 : W'.heap[w.heap.size + 1]? = some (.cells #[.string ⟨t.toArray⟩] 22 (0, 0))) (h2 : W'.heap[w.heap.size + 2]? = some (.cells (prC i j k) 57 (0, 0))) (h3 : W'.heap[w.heap.size + 3]? = some (.cells #[.int .i64 0] 29 (0, 0))) (h4 : W'.heap[w.heap.size + 8]? = W.heap[w.heap.size + 8]?) (hf : W.heap[w.heap.size + 8]? = some (.deferred (some []))) (hb : Below w.heap.size w W') : UpF w W' t i j k := ⟨h1, h2, h3, h4.trans hf, hb⟩
theorem UpG.fin {d : Or.P3} {v : Value} {w W : World} {t0 : Txt} {i0 j0 k0 : Nat} {lp : Obj} (h : UpG d v w W t0 i0 j0 k0 lp) (t : Txt) (i j k : Nat) :
    UpF w (((((W.setCell ⟨w.heap.size + 1, 0, none⟩ (.string ⟨t.toArray⟩)).setCell ⟨w.heap.size + 2, 0, none⟩ (.int .i64 (i : Int))).setCell ⟨w.heap.size + 2, 1, none⟩ (.int .i64 (j : Int))).setCell ⟨w.heap.size + 2, 2, none⟩ (.int .i64 (k : Int))).setCell ⟨w.heap.size + 3, 0, none⟩ (.int .i64 0)).drew t i j k :=
  UpF.drew (UpF.mk3 (W := W) ((heap_setCell_other _ _ _ _ (show w.heap.size + 1 ≠ w.heap.size + 3 by omega)).trans ((o3row (show w.heap.size + 1 ≠ w.heap.size + 2 by omega)).trans (s1row (h.rx)))) ((heap_setCell_other _ _ _ _ (show w.heap.size + 2 ≠ w.heap.size + 3 by omega)).trans (s3row ((heap_setCell_other _ _ _ _ (show w.heap.size + 2 ≠ w.heap.size + 1 by omega)).trans (h.rp)))) (s1row ((o3row (show w.heap.size + 3 ≠ w.heap.size + 2 by omega)).trans ((heap_setCell_other _ _ _ _ (show w.heap.size + 3 ≠ w.heap.size + 1 by omega)).trans (h.re)))) ((heap_setCell_other _ _ _ _ (show w.heap.size + 8 ≠ w.heap.size + 3 by omega)).trans ((o3row (show w.heap.size + 8 ≠ w.heap.size + 2 by omega)).trans ((heap_setCell_other _ _ _ _ (show w.heap.size + 8 ≠ w.heap.size + 1 by omega)).trans (rfl)))) h.f (((b3row (((h.w).cel (p := ⟨w.heap.size + 1, 0, none⟩) (Nat.le_add_right _ _) _)) (Nat.le_add_right _ _))).cel (p := ⟨w.heap.size + 3, 0, none⟩) (Nat.le_add_right _ _) _))
set_option maxRecDepth 100000 in
set_option maxHeartbeats 8000000 in
theorem upright_c {v : Value} (ls : List Or.P3) (d : Or.P3) (w : World) (hg : Good w) (S : SlX w v ls) (hin : ∀ p ∈ ls, InS p) (hd : InS d) (h0 : 0 < ls.length) (hn : ls.length ≤ 64) :
    Calls Tryz.prog 100 #[v, spV d] w (Ret w (uprV ls d)) := by
  have hE : Or.upA ls d 0 none = Or.least ls d := rfl
  have hW : Or.wid ls d = match Or.least ls d with | none => 0 | some x => Or.sv ls d x := rfl
  unfold uprV
  generalize Or.wid ls d = Q at *
  generalize Or.least ls d = E at *
  have HSC := Lib.hid (fun a n cap d W => supports_c a n cap d W)
  obtain ⟨sa, cap, rfl⟩ := S.lenS
  have HIN := Lib.hid hin
  have HD := Lib.hid hd
  have HS := Lib.hid S
  have HG := Lib.hid hg
  have HW := Lib.hid hW
  have hs := up_start d (.slice sa ls.length cap) w
  clear hin S hg hd hW
  refine calls_marks Tryz.func100 rfl ?_
  simp only [Tryz.ntmps100, List.size_toArray, List.length_cons, List.length_nil, Nat.reduceAdd, Nat.reduceSub, Array.replicate_succ, Array.replicate_zero, List.push_toArray, List.append_toArray, List.nil_append, List.cons_append]
  obtain ⟨dx, dy, dz⟩ := d
  go_wp2_with fail
  ((with_reducible refine (HSC.out _ _ _ ⟨dx, dy, dz⟩ _).mono ?_); rintro e w' ⟨rfl, rfl⟩)
  go_wp2_with fail
  simp only [Nat.add_assoc, Nat.reduceAdd]
  generalize ((((((((w.alloc (.cells #[.int .i64 dx, .int .i64 dy, .int .i64 dz] 52)).alloc (.cells #[.string ⟨#[]⟩] 22)).alloc (.cells #[.int .i64 0, .int .i64 0, .int .i64 0] 57)).alloc (.cells #[.int .i64 0] 29)).alloc (.cells #[.string ⟨#[]⟩] 22)).alloc (.cells #[.int .i64 0, .int .i64 0, .int .i64 0] 57)).alloc (.cells #[.slice sa ls.length cap] 50)).alloc (.cells #[.int .i64 dx, .int .i64 dy, .int .i64 dz] 52)) = W6 at *
  have hsz := hs.size
  have HST := Lib.hid hs
  clear hs
  refine range_named (gf := 195) (lb := #[.pointer (some ⟨w.heap.size + 6, 0, none⟩), .pointer (some ⟨w.heap.size + 7, 0, none⟩)]) rfl (enters_of Tryz.func195 (by kernel_rfl) rfl) (fun fn lp hlp => ?_)
  rw [hsz]
  have HLP := Lib.hid hlp
  have b6 := below_al W6 (.deferred (some []))
  have b7 := below_al (W6.alloc (.deferred (some []))) (.loop (lp .ready none))
  have h6 := alloc_at (o := .deferred (some [])) hsz
  have h7 : ((W6.alloc (.deferred (some []))).alloc (.loop (lp .ready none))).heap[w.heap.size + 9]? = some (.loop (lp .ready none)) := alloc_at (by simp; omega)
  have hI : UpI ls ⟨dx, dy, dz⟩ (.slice sa ls.length cap) w ((W6.alloc (.deferred (some []))).alloc (.loop (lp .ready none))) none (.loop (lp .ready none)) := by
    have hq := b6.nx b7
    have hS := HST.out
    exact ⟨⟨keepD hS.q0 hq, keepD hS.rx hq, keepD hS.rp hq, keepD hS.re hq, keepD hS.b hq, keepD hS.o hq, keepD hS.c hq, keepD hS.q7 hq, keepD h6 b7, h7, hS.w.nx hq⟩, fun y e => by cases e⟩
  generalize (W6.alloc (.deferred (some []))).alloc (.loop (lp .ready none)) = W8 at *
  clear b6 b7 h6 h7 HST hlp hsz HSC
  refine (supports_in (v := .slice sa ls.length cap) ls ⟨dx, dy, dz⟩ HIN.out HD.out h0 hn (w.heap.size + 6) (w.heap.size + 7) (w.heap.size + 9) (fun s W => UpI ls ⟨dx, dy, dz⟩ (.slice sa ls.length cap) w W s (.loop (lp .ready none)))
    (fun s W1 W2 h k => h.later k) (fun s W1 h => ⟨h.g.c, h.g.q7, HS.out.later h.g.w⟩) ?go none W8 hI).mono ?_
  case go =>
    intro s x W1 hx hj
    obtain ⟨B, hB⟩ : ∃ B, Or.bet ls ⟨dx, dy, dz⟩ s x = B := ⟨_, rfl⟩
    rw [hB]
    have hja := hj.later (below_al W1 (.cells (supC x (nrm ls ⟨dx, dy, dz⟩ x.i x.j)) 146))
    have hxc : (W1.alloc (.cells (supC x (nrm ls ⟨dx, dy, dz⟩ x.i x.j)) 146)).heap[W1.heap.size]? = some (.cells (supC x (nrm ls ⟨dx, dy, dz⟩ x.i x.j)) 146 (0, 0)) := heap_alloc_new W1 _
    have hl1 := (Array.getElem?_eq_some_iff.1 hj.g.lp).1
    have hp := hja.put (.loop (lp .busy none))
    have hxp : ((W1.alloc (.cells (supC x (nrm ls ⟨dx, dy, dz⟩ x.i x.j)) 146)).putObj (w.heap.size + 9) (.loop (lp .busy none))).heap[W1.heap.size]? = some (.cells (supC x (nrm ls ⟨dx, dy, dz⟩ x.i x.j)) 146 (0, 0)) := by
      rw [World.putObj_heap_other (by omega)]; exact hxc
    have hfar := okU_far HD.out HIN.out hx
    have HSQ := Lib.hid (fun W' (h : Below w.heap.size w W') => by
      have := osquared_c x.far (nrm ls ⟨dx, dy, dz⟩ x.i x.j) W' (HG.out.later h) (by omega) ((nrm_bd HD.out HIN.out hx.i hx.j).mono (by decide)) (okU_ne hx)
      rwa [okU_sv hx] at this)
    have HSM := Lib.hid (fun y (hy : OkU ls ⟨dx, dy, dz⟩ y) W' (h : Below w.heap.size w W') => osmaller_c (Or.sv ls ⟨dx, dy, dz⟩ x) (Or.sv ls ⟨dx, dy, dz⟩ y) W' (HG.out.later h) ((okU_sz HD.out HIN.out hx).mono (by decide)) ((okU_sz HD.out HIN.out hy).mono (by decide)))
    have HXK := Lib.hid hx
    have HBN := Lib.hid (Or.bet_none ls ⟨dx, dy, dz⟩ x)
    have HBS := Lib.hid (fun y => Or.bet_some ls ⟨dx, dy, dz⟩ x y)
    have HOK := Lib.hid (fun y (e : s = some y) => hj.ok y e)
    have HNE := Lib.hid (show W1.heap.size ≠ w.heap.size + 4 ∧ W1.heap.size ≠ w.heap.size + 5 by omega)
    have hq : ∀ y, uT ls ⟨dx, dy, dz⟩ (some y) = rtoa (Or.sv ls ⟨dx, dy, dz⟩ y) := fun _ => rfl
    generalize nrm ls ⟨dx, dy, dz⟩ x.i x.j = n at *
    generalize hRR : rtoa (Or.sv ls ⟨dx, dy, dz⟩ x) = R at *
    have HRQ := Lib.hid hRR
    obtain ⟨xi, xj, xf, xa⟩ := x
    obtain ⟨nx, ny, nz⟩ := n
    simp only at HSQ
    apply yield_named2 HLP.out (W1.alloc (.cells (supC ⟨xi, xj, xf, xa⟩ ⟨nx, ny, nz⟩) 146)) hj.g.lp hja.g.lp rfl
    · intro K hK
      gi_wp2
      exact hK
    · have HP := Lib.hid hp
      have HXP := Lib.hid hxp
      obtain ⟨k0, k1, k2, k3, k4, k5, k6⟩ := c7row hxp
      generalize (W1.alloc (.cells (supC ⟨xi, xj, xf, xa⟩ ⟨nx, ny, nz⟩) 146)).putObj (w.heap.size + 9) (.loop (lp .busy none)) = W3 at *
      have hgx : W1.heap.size < W3.heap.size := (Array.getElem?_eq_some_iff.1 hxp).1
      generalize W1.heap.size = gx at *
      clear hja hp hxp hxc hx hj hfar hl1 hRR
      gi_wp2_with fail
      refine ⟨trivial, rfl, ?_⟩
      refine (callsIn_wide.2 (HSQ.out _ HP.out.g.w)).mono ?_
      rintro e W4 ⟨rfl, hb4⟩
      have HP4 := Lib.hid (HP.out.later hb4)
      have HX4 := Lib.hid (keepD HXP.out hb4)
      clear hb4 HP HXP HSQ k0 k1 k2 k3 k4 k5 k6 hgx
      obtain ⟨k0, k1, k2, k3, k4, k5, k6⟩ := c7row HX4.out
      have b0 := c1row HP4.out.g.b
      rcases s with _ | y
      · change W4.cell? ⟨w.heap.size + 4, 0, none⟩ = some (.string ⟨#[]⟩) at b0
        obtain rfl := hB.symm.trans HBN.out
        clear HSM HBN HBS HOK hB k0 k1 k2 k3 k4 k5 k6
        gi_wp2_with fail
        refine wpIn_ops (ops' := opsOf Tryz.f100 13) (by kernel_rfl) ?_
        refine wpIn_region_whole (R := u13R w R gx xi xj xa) (J := u13J ⟨dx, dy, dz⟩ (.slice sa ls.length cap) w (.loop (lp .busy none)) gx xi xj xf xa nx ny nz) (T := u13T w R xi xj xa) (by kernel_rfl) (by kernel_rfl) (by kernel_rfl) (by kernel_rfl) (u13_keep w R gx xi xj xa) ⟨HX4.out, _, _, _, _, HP4.out.g.drew⟩ (u13_steps rfl rfl rfl rfl rfl HNE.out) ?_
        intro vs W6 hJ hR
        obtain ⟨-, t6, i6, j6, k6, hG⟩ := hJ
        have hb8 := hR 8 (by rw [n13]; decide)
        have hb9 := hR 9 (by rw [n13]; decide)
        have HSS := Lib.hid (show UpI ls ⟨dx, dy, dz⟩ (.slice sa ls.length cap) w W6 (some ⟨xi, xj, xf, xa⟩) (.loop (lp .busy none)) from ⟨⟨hG.q0, hG.rx, hG.rp, hG.re, by rw [hq, HRQ.out]; exact hb8, hb9, hG.c, hG.q7, hG.f, hG.lp, hG.w⟩, fun y e => by cases e; exact HXK.out⟩)
        clear hG hb8 hb9 hR
        simp only [n13, show List.range 10 = [0, 1, 2, 3, 4, 5, 6, 7, 8, 9] from rfl, putL, List.foldl_cons, List.foldl_nil, d13_0, d13_1, d13_2, d13_3, d13_4, d13_5, d13_6, d13_7, d13_8, d13_9, Act.put, List.setIfInBounds_toArray, List.set_cons_zero, List.set_cons_succ]
        gi_wp2
        exact ⟨HSS.out.g.lp, rfl, HSS.out.put _⟩
      · rw [hq y] at b0
        have hsm := HSM.out y (HOK.out y rfl)
        have hB2 := hB.symm.trans (HBS.out y)
        have hT2 := rtoa_nn (Or.sv ls ⟨dx, dy, dz⟩ y)
        generalize rtoa (Or.sv ls ⟨dx, dy, dz⟩ y) = T2 at *
        have y1 : (T2 == []) = false := beq_eq_false_iff_ne.2 hT2
        have y3 : T2.isEmpty = false := by cases q : T2 with | nil => exact absurd q hT2 | cons _ _ => rfl
        have HSM2 := Lib.hid hsm
        have HB2 := Lib.hid hB2
        clear hsm HSM HBN HBS hT2 hB hB2
        gi_wp2_with fail
        refine ⟨trivial, rfl, ?_⟩
        refine (callsIn_wide.2 (HSM2.out _ HP4.out.g.w)).mono ?_
        rintro e W5 ⟨rfl, hb5⟩
        have HP5 := Lib.hid (HP4.out.later hb5)
        have HX5 := Lib.hid (keepD HX4.out hb5)
        clear hb5 HP4 HX4 HSM2 k0 k1 k2 k3 k4 k5 k6 b0
        by_cases hlt : Or.sv ls ⟨dx, dy, dz⟩ ⟨xi, xj, xf, xa⟩ < Or.sv ls ⟨dx, dy, dz⟩ y
        · obtain rfl := HB2.out.trans (if_pos hlt)
          rw [decide_eq_true hlt]
          clear hlt HOK HB2
          gi_wp2_with fail
          refine wpIn_ops (ops' := opsOf Tryz.f100 13) (by kernel_rfl) ?_
          refine wpIn_region_whole (R := u13R w R gx xi xj xa) (J := u13J ⟨dx, dy, dz⟩ (.slice sa ls.length cap) w (.loop (lp .busy none)) gx xi xj xf xa nx ny nz) (T := u13T w R xi xj xa) (by kernel_rfl) (by kernel_rfl) (by kernel_rfl) (by kernel_rfl) (u13_keep w R gx xi xj xa) ⟨HX5.out, _, _, _, _, HP5.out.g.drew⟩ (u13_steps rfl rfl rfl rfl rfl HNE.out) ?_
          intro vs W6 hJ hR
          obtain ⟨-, t6, i6, j6, k6, hG⟩ := hJ
          have hb8 := hR 8 (by rw [n13]; decide)
          have hb9 := hR 9 (by rw [n13]; decide)
          have HSS := Lib.hid (show UpI ls ⟨dx, dy, dz⟩ (.slice sa ls.length cap) w W6 (some ⟨xi, xj, xf, xa⟩) (.loop (lp .busy none)) from ⟨⟨hG.q0, hG.rx, hG.rp, hG.re, by rw [hq, HRQ.out]; exact hb8, hb9, hG.c, hG.q7, hG.f, hG.lp, hG.w⟩, fun y e => by cases e; exact HXK.out⟩)
          clear hG hb8 hb9 hR
          simp only [n13, show List.range 10 = [0, 1, 2, 3, 4, 5, 6, 7, 8, 9] from rfl, putL, List.foldl_cons, List.foldl_nil, d13_0, d13_1, d13_2, d13_3, d13_4, d13_5, d13_6, d13_7, d13_8, d13_9, Act.put, List.setIfInBounds_toArray, List.set_cons_zero, List.set_cons_succ]
          gi_wp2
          exact ⟨HSS.out.g.lp, rfl, HSS.out.put _⟩
        · obtain rfl := HB2.out.trans (if_neg hlt)
          rw [decide_eq_false hlt]
          clear hlt HOK HB2
          gi_wp2
          exact ⟨HP5.out.g.lp, rfl, HP5.out.put _⟩
  · rintro e W2 ⟨hv, hh⟩
    refine ⟨hv, .ready, none, hh.g.lp, by decide, ?_⟩
    rw [hE] at hh
    have hp := hh.put (.loop (lp .exhausted none))
    simp only [After]
    have HP := Lib.hid hp
    have b0 := c1row hp.g.b
    obtain ⟨o0, o1, o2⟩ := c3row hp.g.o
    have r0 := c1row hp.g.rx
    obtain ⟨p0, p1, p2⟩ := c3row hp.g.rp
    have e0 := c1row hp.g.re
    have f1 := fun k => free_row hp.g.rx k
    have f2 := fun k => free_row hp.g.rp k
    have f3 := fun k => free_row hp.g.re k
    clear hh hp
    generalize W2.putObj (w.heap.size + 9) (.loop (lp .exhausted none)) = W3 at *
    cases E with
    | none =>
      change W3.cell? ⟨w.heap.size + 4, 0, none⟩ = some (.string ⟨#[]⟩) at b0
      have hz : Q = 0 := HW.out
      subst hz
      have HF := Lib.hid (HP.out.g.fin [48] 0 0 0)
      clear hE HW HP
      go_wp2_with fail
      go_region
      all_goals
        go_wp2
        have hf := HF.out
        refine postM_ret1 rfl hf.f (res_ccc rfl (by kernel_rfl) (by kernel_rfl) (by kernel_rfl) (hf.put _).1 (hf.put _).2.1 (hf.put _).2.2 Tryz.underlying22 rfl Tryz.underlying57 rfl (by kernel_rfl) Tryz.underlying29 rfl) ?_
        refine ⟨?_, pob hf.w (by omega) _⟩
        show _ = Ending.returned (.tuple #[.string ⟨(rtoa 0).toArray⟩, .agg (prC 0 0 0), .int .i64 0])
        rw [rtoa_zero]
    | some x =>
      have hz : Q = Or.sv ls ⟨dx, dy, dz⟩ x := HW.out
      subst hz
      change W3.cell? ⟨w.heap.size + 4, 0, none⟩ = some (.string ⟨(rtoa (Or.sv ls ⟨dx, dy, dz⟩ x)).toArray⟩) at b0
      have hT2 := rtoa_nn (Or.sv ls ⟨dx, dy, dz⟩ x)
      generalize hTT : rtoa (Or.sv ls ⟨dx, dy, dz⟩ x) = T2 at *
      have HTT := Lib.hid hTT
      have y1 : (T2 == []) = false := beq_eq_false_iff_ne.2 hT2
      have y3 : T2.isEmpty = false := by cases q : T2 with | nil => exact absurd q hT2 | cons _ _ => rfl
      have HF := Lib.hid (HP.out.g.fin T2 x.i x.j x.at')
      obtain ⟨xi, xj, xf, xa⟩ := x
      clear hE HW HP hT2 hTT
      go_wp2_with fail
      go_region
      all_goals
        go_wp2
        have hf := HF.out
        refine postM_ret1 rfl hf.f (res_ccc rfl (by kernel_rfl) (by kernel_rfl) (by kernel_rfl) (hf.put _).1 (hf.put _).2.1 (hf.put _).2.2 Tryz.underlying22 rfl Tryz.underlying57 rfl (by kernel_rfl) Tryz.underlying29 rfl) ?_
        exact ⟨rfl, pob hf.w (by omega) _⟩
end Go.Proofs.Wk
