/- A RANGE OVER A FUNCTION, the statement and its rounds, with the loop's record in sight; a function that leaves with marks. -/
import Derived.RangeFuncNested
import Derived.RangeFuncCalls
import Derived.RangeFuncLeaves
import Derived.RangeFuncRecord
import Derived.WalkKit
import Derived.Test.YtnhegeifcneiaaaGreatDoorMA
import Derived.RangeFuncBound
import Derived.Shelf.Abstract
import Derived.Shelf.RegionOpen
import Derived.OwnWalkIn
import Derived.TacticsInMore
import Derived.LoopNIn
import Derived.LoopIn
namespace Go.Rng
open Go Go.RowKit
variable {P : Program}

/-- A loop's record. -/
abbrev recOf (fn : FuncId) (tmps : Array Value) (ps : Array Tmp) (assign body : Code) (D : Nat) (st : LoopState) (pe : Option Code) : Loop :=
  { state := st, pending := pe, fn, tmps, params := ps, assign, body, defers := D }
/-- What must hold behind the function that was ranged over. -/
def After (P : Program) (Q : Exit → Act → World → Prop) (a : Act) (D : Nat) : Option Code → World → Prop
  | none, w => Q .normal { a with defers := { target := .collected D, args := #[] } :: a.defers } w
  | some c, w => c.wp P Q { a with defers := { target := .collected D, args := #[] } :: a.defers } w
theorem range_wp {g : Operand} {ps : Array Tmp} {assign body : Code} {Q : Exit → Act → World → Prop} {a : Act} {w : World} {gf : Nat} {lb : Array Value}
    (hg : a.eval g = .func (.func gf) #[] lb) (eg : ∀ args w, (callFunc gf args).run P w = .ok (.enter gf args) w)
    (hcall : ∀ fn, CallsIn Fence.wide 0 P gf (#[.func (.yield (w.heap.size + 1)) #[] #[]] ++ lb) ((w.alloc (.deferred (some []))).alloc (.loop (recOf fn a.tmps ps assign body w.heap.size .ready none)))
      fun e W => (∃ v, e = .returned v) ∧ ∃ st pe, W.heap[w.heap.size + 1]? = some (.loop (recOf fn a.tmps ps assign body w.heap.size st pe)) ∧ st ≠ .busy ∧
        After P Q a w.heap.size pe (W.putObj (w.heap.size + 1) (.loop (recOf fn a.tmps ps assign body w.heap.size .exhausted pe)))) :
    (Code.rangeFunc g ps assign body).wp P Q a w := by
  refine (wpIn_wide (n := 0)).1 (wpIn_rangeFunc (F := Fence.wide) (n := 0) ?_)
  intro fn _
  refine ⟨w.heap.size + 1, [{ target := .collected w.heap.size, args := #[] }], (w.alloc (.deferred (some []))).alloc (.loop (recOf fn a.tmps ps assign body w.heap.size .ready none)),
    { target := .fn (.func gf) lb, args := #[.func (.yield (w.heap.size + 1)) #[] #[]] }, (w.alloc (.deferred (some []))).alloc (.loop (recOf fn a.tmps ps assign body w.heap.size .ready none)), gf,
    #[.func (.yield (w.heap.size + 1)) #[] #[]] ++ lb, (w.alloc (.deferred (some []))).alloc (.loop (recOf fn a.tmps ps assign body w.heap.size .ready none)), ?_, ?_, ?_, ?_, fun h => (by cases h), ?_⟩
  · exact run_enterLoop_outer _ _ _ _ _
  · simp only [resolve, hg]
    simp [go_sem]
  · intro f' hf'; trivial
  · simp [invoke, go_sem, eg]
  · refine (hcall fn).mono ?_
    rintro e W ⟨⟨v, rfl⟩, st, pe, hl, hst, hA⟩
    refine ⟨pe, _, run_endLoop (P := P) hl hst, ?_⟩
    cases pe with
    | none => exact hA
    | some c => exact (wpIn_wide (n := 0)).2 hA
/-- How a round may be left. -/
def roundEnd (l : Nat) (r : Loop) (R : Ending → World → Prop) : Exit → Act → World → Prop
  | .normal, _, W => W.heap[l]? = some (.loop { r with state := .busy }) ∧ R (.returned (.bool true)) (W.putObj l (.loop { r with state := .ready, pending := none }))
  | .ret, _, W => W.heap[l]? = some (.loop { r with state := .busy }) ∧ R (.returned (.bool false)) (W.putObj l (.loop { r with state := .done, pending := some .ret }))
  | .exit id, _, W => W.heap[l]? = some (.loop { r with state := .busy }) ∧ R (.returned (.bool false)) (W.putObj l (.loop { r with state := .done, pending := some (.exit id) }))
  | .goto t, _, W => W.heap[l]? = some (.loop { r with state := .busy }) ∧ R (.returned (.bool false)) (W.putObj l (.loop { r with state := .done, pending := some (.goto t) }))
  | _, _, _ => False
theorem yield_at {l : Nat} {r : Loop} {W : World} {args : Array Value} {R : Ending → World → Prop} {A1 : Act} (hl : W.heap[l]? = some (.loop r)) (hr : r.state = .ready) (hs : args.size = r.params.size)
    (hA : ∀ K : Act → World → Prop, K A1 W → r.assign.wpIn (Fence.wide.inRound l) 0 P (Exit.then K (fun _ _ _ => False)) { tmps := (r.params.zip args).foldl (fun t (p, v) => t.setIfInBounds p v) r.tmps, defers := [] } W)
    (hB : r.body.wpIn (Fence.wide.inRound l) 0 P (roundEnd l r R) A1 (W.putObj l (.loop { r with state := .busy }))) : YieldAt Fence.wide 0 P l args W R := by
  refine ⟨r.fn, _, r.assign, r.body, run_yield hl hs, roundIn_of_wpIn trivial (hA _ ⟨_, run_beginRound hl hr, wpIn_mono hB ?_⟩)⟩
  rintro e a W' h
  cases e with
  | normal => exact ⟨_, _, run_endRound none h.1, h.2⟩
  | ret => exact ⟨_, _, run_endRound (some .ret) h.1, h.2⟩
  | exit id => exact ⟨_, _, run_endRound (some (.exit id)) h.1, h.2⟩
  | goto t => exact ⟨_, _, run_endRound (some (.goto t)) h.1, h.2⟩
  | panic ch => exact h.elim
  | outgrown => exact h.elim
/-- The same with the record under a name. -/
theorem range_named {g : Operand} {ps : Array Tmp} {assign body : Code} {Q : Exit → Act → World → Prop} {a : Act} {w : World} {gf : Nat} {lb : Array Value}
    (hg : a.eval g = .func (.func gf) #[] lb) (eg : ∀ args w, (callFunc gf args).run P w = .ok (.enter gf args) w)
    (hcall : ∀ (fn : FuncId) (lp : LoopState → Option Code → Loop), (∀ st pe, lp st pe = recOf fn a.tmps ps assign body w.heap.size st pe) →
      CallsIn Fence.wide 0 P gf (#[.func (.yield (w.heap.size + 1)) #[] #[]] ++ lb) ((w.alloc (.deferred (some []))).alloc (.loop (lp .ready none)))
      fun e W => (∃ v, e = .returned v) ∧ ∃ st pe, W.heap[w.heap.size + 1]? = some (.loop (lp st pe)) ∧ st ≠ .busy ∧ After P Q a w.heap.size pe (W.putObj (w.heap.size + 1) (.loop (lp .exhausted pe)))) :
    (Code.rangeFunc g ps assign body).wp P Q a w :=
  range_wp hg eg fun fn => hcall fn (fun st pe => recOf fn a.tmps ps assign body w.heap.size st pe) fun _ _ => rfl
def endOf (l : Nat) (lp : LoopState → Option Code → Loop) (R : Ending → World → Prop) : Exit → Act → World → Prop
  | .normal, _, W => W.heap[l]? = some (.loop (lp .busy none)) ∧ R (.returned (.bool true)) (W.putObj l (.loop (lp .ready none)))
  | .ret, _, W => W.heap[l]? = some (.loop (lp .busy none)) ∧ R (.returned (.bool false)) (W.putObj l (.loop (lp .done (some .ret))))
  | .exit id, _, W => W.heap[l]? = some (.loop (lp .busy none)) ∧ R (.returned (.bool false)) (W.putObj l (.loop (lp .done (some (.exit id)))))
  | .goto t, _, W => W.heap[l]? = some (.loop (lp .busy none)) ∧ R (.returned (.bool false)) (W.putObj l (.loop (lp .done (some (.goto t)))))
  | _, _, _ => False
theorem yield_named {fn : FuncId} {tmps : Array Value} {ps : Array Tmp} {assign body : Code} {D l : Nat} {lp : LoopState → Option Code → Loop} (hlp : ∀ st pe, lp st pe = recOf fn tmps ps assign body D st pe)
    {W : World} {args : Array Value} {R : Ending → World → Prop} {A1 : Act} (hl : W.heap[l]? = some (.loop (lp .ready none))) (hs : args.size = ps.size)
    (hA : ∀ K : Act → World → Prop, K A1 W → assign.wpIn (Fence.wide.inRound l) 0 P (Exit.then K (fun _ _ _ => False)) { tmps := (ps.zip args).foldl (fun t (p, v) => t.setIfInBounds p v) tmps, defers := [] } W)
    (hB : body.wpIn (Fence.wide.inRound l) 0 P (endOf l lp R) A1 (W.putObj l (.loop (lp .busy none)))) : YieldAt Fence.wide 0 P l args W R := by
  have e1 := hlp .ready none
  have e2 := hlp .busy none
  rw [e1] at hl
  rw [e2] at hB
  refine yield_at (r := recOf fn tmps ps assign body D .ready none) hl rfl hs hA (wpIn_mono hB ?_)
  rintro e a W' h
  cases e with
  | normal => simp only [endOf, hlp] at h; exact h
  | ret => simp only [endOf, hlp] at h; exact h
  | exit id => simp only [endOf, hlp] at h; exact h
  | goto t => simp only [endOf, hlp] at h; exact h
  | panic ch => exact h.elim
  | outgrown => exact h.elim
/-- A function leaves with marks: each one's block is shut. -/
def leaves (P : Program) (fn : Func) (tmps : Array Value) (R : Ending → World → Prop) : List Deferred → World → Prop
  | [], w => ∃ v, (results fn tmps).run P w = .ok v w ∧ R (.returned v) w
  | d :: ds, w => ∃ r, d.target = .collected r ∧ w.heap[r]? = some (.deferred (some [])) ∧ leaves P fn tmps R ds (w.putObj r (.deferred none))
def postM (P : Program) (fn : Func) (R : Ending → World → Prop) : Exit → Act → World → Prop
  | .normal, a, w | .ret, a, w => leaves P fn a.tmps R a.defers w
  | _, _, _ => False
theorem leavesM {fn : Func} {tmps : Array Value} {R : Ending → World → Prop} : ∀ (ds : List Deferred) (w : World), leaves P fn tmps R ds w → LeavesInM Fence.wide 0 P fn tmps R ds .returning w
  | [], _, h => h
  | _ :: ds, w, ⟨r, h1, h2, h3⟩ => ⟨by simp, .inl ⟨r, _, h1, run_takeDeferred h2, leavesM ds _ h3⟩⟩
theorem calls_marks {f : FuncId} {fn : Func} {c : Code} {args : Array Value} {w : World} {R : Ending → World → Prop} (hf : P.funcs[f]? = some fn) (hb : fn.body = some c)
    (h : c.wp P (postM P fn R) { tmps := args ++ Array.replicate (fn.ntmps - args.size) undef, defers := [] } w) : Calls P f args w R := by
  refine (callsIn_wide (n := 0)).1 (callsIn_of_wp_marks hf hb trivial (wpIn_mono ((wpIn_wide (n := 0)).2 h) ?_))
  rintro e a W hq
  cases e with
  | normal => exact leavesM _ _ hq
  | ret => exact leavesM _ _ hq
  | _ => exact hq.elim
theorem postM_ret {fn : Func} {R : Ending → World → Prop} {a : Act} {w : World} {v : Value} (hd : a.defers = []) (hr : (results fn a.tmps).run P w = .ok v w) (hR : R (.returned v) w) : postM P fn R .ret a w := by
  show leaves P fn a.tmps R a.defers w
  rw [hd]; exact ⟨v, hr, hR⟩
theorem postM_ret1 {fn : Func} {R : Ending → World → Prop} {a : Act} {w : World} {v : Value} {D : Nat} (hd : a.defers = [{ target := .collected D, args := #[] }]) (hk : w.heap[D]? = some (.deferred (some [])))
    (hr : (results fn a.tmps).run P (w.putObj D (.deferred none)) = .ok v (w.putObj D (.deferred none))) (hR : R (.returned v) (w.putObj D (.deferred none))) : postM P fn R .ret a w := by
  show leaves P fn a.tmps R a.defers w
  rw [hd]; exact ⟨D, rfl, hk, v, hr, hR⟩
end Go.Rng
/- REGISTERS OF LOTS: the reader's iterator. -/
namespace Go.Proofs.Wk
open Go.RowKit Go.Rng Mt
attribute [local go_sem] Oper.semAt_some

def ReadFn (b : Nat) (w : World) (e : Ending) (w' : World) : Prop := e = .returned (.func (.func 76) #[] #[.pointer (some ⟨w.heap.size, 0, none⟩)]) ∧ w' = w.alloc (.cells #[.pointer (some ⟨b, 0, none⟩)] 90)
set_option maxRecDepth 100000 in
theorem readFn_c (b : Nat) (w : World) : Calls Tryz.prog 46 #[.pointer (some ⟨b, 0, none⟩)] w (ReadFn b w) := by
  go_enter Tryz.func46, Tryz.ntmps46
  go_wp2
  go_ret
  exact ⟨rfl, rfl⟩
/-- How many bytes are left: for the loop's measure. -/
def leftB (b : Nat) (w : World) : Nat := match w.cell? ⟨b, 3, none⟩ with | some (.string s) => s.size | _ => 0
theorem leftB_at {b : Nat} {w : World} {r : Rg.Rd} (h : RdAt w b r) : leftB b w = r.rest.length := by
  obtain ⟨v, h1, -⟩ := h
  obtain ⟨-, -, -, d3⟩ := cell4 h1
  unfold leftB; rw [d3]; simp [ByteArray.size]
/-- How the iterator ends. -/
def ItP (J : World → Prop) (Jx : Rg.Rd → Int → World → Prop) (b : Nat) (r : Rg.Rd × Int) (e : Ending) (w : World) : Prop := (∃ v, e = .returned v) ∧ (r.2 = 0 ∧ RdAt w b r.1 ∧ J w ∨ r.2 ≠ 0 ∧ Jx r.1 r.2 w)
def YdT (J : World → Prop) (b : Nat) (r : Rg.Rd) (e : Ending) (w : World) : Prop := e = .returned (.bool true) ∧ RdAt w b r ∧ J w
def YdF (Jx : Rg.Rd → Int → World → Prop) (r : Rg.Rd) (c : Int) (e : Ending) (w : World) : Prop := e = .returned (.bool false) ∧ Jx r c w
theorem line_ok {b : Nat} {r : Rg.Rd} {w : World} {c : Int} (h : Rg.lnE r = c) (k : Calls Tryz.prog 77 #[.pointer (some ⟨b, 0, none⟩)] w (LnP w b r)) :
    Calls Tryz.prog 77 #[.pointer (some ⟨b, 0, none⟩)] w fun e w' => e = .returned (.int .i64 c) ∧ Sav b w w' ∧ RdAt w' b (if c = 0 then Rg.lnR r else r) := by
  subst h; exact k
set_option maxRecDepth 100000 in
set_option maxHeartbeats 4000000 in
theorem reader_in (cb b l : Nat) (J : World → Prop) (Jx : Rg.Rd → Int → World → Prop) (hJ : ∀ W1 W2, J W1 → Sav b W1 W2 → J W2)
    (hJg : ∀ W1, J W1 → GoodS W1 ∧ W1.cell? ⟨cb, 0, none⟩ = some (.pointer (some ⟨b, 0, none⟩)))
    (hgo : ∀ r W1, RdAt W1 b r → J W1 → YieldAt Fence.wide 0 Tryz.prog l #[.int .i64 0] W1 (YdT J b r))
    (hst : ∀ r c W1, c ≠ 0 → RdAt W1 b r → J W1 → YieldAt Fence.wide 0 Tryz.prog l #[.int .i64 c] W1 (YdF Jx r c))
    (r0 : Rg.Rd) (W : World) (hR : RdAt W b r0) (hok : Rg.RdOk r0) (hj : J W) (hl : r0.rest.length ≤ 600000) :
    CallsIn Fence.wide 0 Tryz.prog 76 #[.func (.yield l) #[] #[], .pointer (some ⟨cb, 0, none⟩)] W (ItP J Jx b (Rg.runS r0)) := by
  obtain ⟨E, hE⟩ : ∃ E, Rg.runS r0 = E := ⟨_, rfl⟩
  rw [hE]
  have HE := Lib.hid hE
  have HR := Lib.hid hR
  have HOK := Lib.hid hok
  have HJ0 := Lib.hid hj
  have HJS := Lib.hid hJ
  have HJG := Lib.hid hJg
  have HGO := Lib.hid hgo
  have HST := Lib.hid hst
  clear hE hR hok hj hJ hJg hgo hst
  refine callsIn_of_wp Tryz.func76 rfl trivial ?_
  simp only [Tryz.ntmps76, List.size_toArray, List.length_cons, List.length_nil, Nat.reduceAdd, Nat.reduceSub, Array.replicate_succ, Array.replicate_zero, List.push_toArray, List.append_toArray, List.nil_append, List.cons_append]
  gi_wp2
  gi_loopw [3] (fun _ wr => ∃ r : Rg.Rd, Hid (RdAt wr b r) ∧ Hid (Rg.RdOk r) ∧ Hid (J wr) ∧ Hid (Rg.runS r = E) ∧ r.rest.length ≤ 600000) (fun _ wr => leftB b wr)
  case atStart => exact ⟨r0, HR.out, HOK.out, HJ0.out, HE.out, hl⟩
  case round =>
    obtain ⟨r, hr, hk, hjw, hrun, hlr⟩ := hrel
    obtain ⟨hG, hcb⟩ := HJG.out _ hjw.out
    have hms := leftB_at hr.out
    obtain ⟨v, hb0, hS⟩ := hr.out
    obtain ⟨d0, d1, d2, d3⟩ := cell4 hb0
    have HLN := Lib.hid (line_c b r wr hG hr.out hk.out (by omega))
    by_cases hne : r.rest = []
    · have hf := hrun.out
      rw [Rg.runS_end hne] at hf
      rw [hne] at d3
      have HF := Lib.hid hf
      clear HLN hrun hne hms hb0 hS hG
      gi_wp2
      go_end0
      rw [← HF.out]
      exact ⟨⟨_, rfl⟩, .inl ⟨rfl, hr.out, hjw.out⟩⟩
    · have hlr2 := hlr
      have y1 : (r.rest == []) = false := beq_eq_false_iff_ne.2 hne
      have y2 : (r.rest != []) = true := by rw [bne, y1]; rfl
      have y3 : r.rest.isEmpty = false := by cases q : r.rest with | nil => exact absurd q hne | cons _ _ => rfl
      by_cases h0 : Rg.lnE r = 0
      · have HL0 := Lib.hid (line_ok h0 HLN.out)
        rw [if_pos rfl] at HL0
        have HRUN := Lib.hid (show Rg.runS (Rg.lnR r) = E by rw [← Rg.runS_ok hne h0]; exact hrun.out)
        have HOK2 := Lib.hid (Rg.lnR_ok hk.out h0)
        have hlt := Rg.lnR_lt h0
        generalize r.rest = rest at *
        gi_wp2_with fail
        refine ⟨trivial, rfl, ?_⟩
        refine (callsIn_wide.2 HL0.out).mono ?_
        rintro e w2 ⟨rfl, hsav, hrd⟩
        have hj2 := HJS.out _ _ hjw.out hsav
        obtain ⟨fn, tmps, assign, body, hy, hRd⟩ := HGO.out _ _ hrd hj2
        have HRD := Lib.hid hRd
        clear hRd hsav hrd hj2 d0 d1 d2 d3 hcb y1 y2 y3 HL0 HLN hb0 hS hG hr hk hjw hrun
        gi_wp2_with fail
        refine ⟨rfl, ?_⟩
        refine HRD.out.mono ?_
        rintro e w3 ⟨rfl, hr3, hj3⟩
        have HMS := Lib.hid (show leftB b w3 < leftB b wr by rw [leftB_at hr3, hms]; exact hlt)
        have HR3 := Lib.hid hr3
        have HJ3 := Lib.hid hj3
        have hl3 : (Rg.lnR r).rest.length ≤ 600000 := by omega
        clear hr3 hj3 HRD hy hms hlt hlr
        gi_wp2
        go_roundw
        case rel => exact ⟨Rg.lnR r, HR3.out, HOK2.out, HJ3.out, HRUN.out, hl3⟩
        case measure => exact HMS.out
      · have HLC := Lib.hid (line_ok (c := Rg.lnE r) rfl HLN.out)
        rw [if_neg h0] at HLC
        have HF := Lib.hid (show (r, Rg.lnE r) = E by rw [← Rg.runS_bad hne h0]; exact hrun.out)
        generalize hcc : Rg.lnE r = c at *
        have y4 : (c != 0) = true := bne_iff_ne.2 h0
        have HC0 := Lib.hid h0
        generalize r.rest = rest at *
        clear hcc h0
        gi_wp2_with fail
        refine ⟨trivial, rfl, ?_⟩
        refine (callsIn_wide.2 HLC.out).mono ?_
        rintro e w2 ⟨rfl, hsav, hrd⟩
        have hj2 := HJS.out _ _ hjw.out hsav
        obtain ⟨fn, tmps, assign, body, hy, hRd⟩ := HST.out _ c _ HC0.out hrd hj2
        have HRD := Lib.hid hRd
        clear hRd hsav hrd hj2 d0 d1 d2 d3 hcb y1 y2 y3 HLC HLN hb0 hS hG hr hk hjw hrun hms
        gi_wp2_with fail
        refine ⟨rfl, ?_⟩
        refine HRD.out.mono ?_
        rintro e w3 ⟨rfl, hjx⟩
        have HJX := Lib.hid hjx
        clear hjx HRD hy
        gi_wp2
        refine bodyPost_ret (results_none rfl _ _ _) rfl ?_
        rw [← HF.out]
        exact ⟨⟨_, rfl⟩, .inr ⟨HC0.out, HJX.out⟩⟩
end Go.Proofs.Wk
