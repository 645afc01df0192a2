/- A RANGE OVER A FUNCTION, the statement and its rounds, with the loop's record in sight; a function that leaves with marks. -/
import Derived.RangeFuncNested
import Derived.RangeFuncCalls
import Derived.RangeFuncLeaves
import Derived.RangeFuncRecord
import Derived.WalkKit
namespace Go.Rng
open Go Go.RowKit
variable {P : Program}

/-- A loop's record. -/
abbrev recOf (fn : FuncId) (tmps : Array Value) (ps : Array Tmp) (assign body : Code) (D : Nat) (st : LoopState) (pe : Option Code) : Loop :=
  { state := st, pending := pe, fn, tmps, params := ps, assign, body, defers := D }
/-- What must hold behind the function that was ranged over. -/
def After (P : Program) (Q : Exit → Act → World → Prop) (a : Act) (D : Nat) : Option Code → World → Prop
  | none, w => Q .normal { a with defers := { target := .collected D, args := #[] } :: a.defers } w
  | some c, w => c.wp P Q { a with defers := { target := .collected D, args := #[] } :: a.defers } w
theorem range_wp {g : Operand} {ps : Array Tmp} {assign body : Code} {Q : Exit → Act → World → Prop} {a : Act} {w : World} {gf : Nat} {lb : Array Value}
    (hg : a.eval g = .func (.func gf) #[] lb) (eg : ∀ args w, (callFunc gf args).run P w = .ok (.enter gf args) w)
    (hcall : ∀ fn, CallsIn Fence.wide 0 P gf (#[.func (.yield (w.heap.size + 1)) #[] #[]] ++ lb) ((w.alloc (.deferred (some []))).alloc (.loop (recOf fn a.tmps ps assign body w.heap.size .ready none)))
      fun e W => (∃ v, e = .returned v) ∧ ∃ st pe, W.heap[w.heap.size + 1]? = some (.loop (recOf fn a.tmps ps assign body w.heap.size st pe)) ∧ st ≠ .busy ∧
        After P Q a w.heap.size pe (W.putObj (w.heap.size + 1) (.loop (recOf fn a.tmps ps assign body w.heap.size .exhausted pe)))) :
    (Code.rangeFunc g ps assign body).wp P Q a w := by
  refine (wpIn_wide (n := 0)).1 (wpIn_rangeFunc (F := Fence.wide) (n := 0) ?_)
  intro fn _
  refine ⟨w.heap.size + 1, [{ target := .collected w.heap.size, args := #[] }], (w.alloc (.deferred (some []))).alloc (.loop (recOf fn a.tmps ps assign body w.heap.size .ready none)),
    { target := .fn (.func gf) lb, args := #[.func (.yield (w.heap.size + 1)) #[] #[]] }, (w.alloc (.deferred (some []))).alloc (.loop (recOf fn a.tmps ps assign body w.heap.size .ready none)), gf,
    #[.func (.yield (w.heap.size + 1)) #[] #[]] ++ lb, (w.alloc (.deferred (some []))).alloc (.loop (recOf fn a.tmps ps assign body w.heap.size .ready none)), ?_, ?_, ?_, ?_, fun h => (by cases h), ?_⟩
  · exact run_enterLoop_outer _ _ _ _ _
  · simp only [resolve, hg]
    simp [go_sem]
  · intro f' hf'; trivial
  · simp [invoke, go_sem, eg]
  · refine (hcall fn).mono ?_
    rintro e W ⟨⟨v, rfl⟩, st, pe, hl, hst, hA⟩
    refine ⟨pe, _, run_endLoop (P := P) hl hst, ?_⟩
    cases pe with
    | none => exact hA
    | some c => exact (wpIn_wide (n := 0)).2 hA
/-- How a round may be left. -/
def roundEnd (l : Nat) (r : Loop) (R : Ending → World → Prop) : Exit → Act → World → Prop
  | .normal, _, W => W.heap[l]? = some (.loop { r with state := .busy }) ∧ R (.returned (.bool true)) (W.putObj l (.loop { r with state := .ready, pending := none }))
  | .ret, _, W => W.heap[l]? = some (.loop { r with state := .busy }) ∧ R (.returned (.bool false)) (W.putObj l (.loop { r with state := .done, pending := some .ret }))
  | .exit id, _, W => W.heap[l]? = some (.loop { r with state := .busy }) ∧ R (.returned (.bool false)) (W.putObj l (.loop { r with state := .done, pending := some (.exit id) }))
  | .goto t, _, W => W.heap[l]? = some (.loop { r with state := .busy }) ∧ R (.returned (.bool false)) (W.putObj l (.loop { r with state := .done, pending := some (.goto t) }))
  | _, _, _ => False
theorem yield_at {l : Nat} {r : Loop} {W : World} {args : Array Value} {R : Ending → World → Prop} {A1 : Act} (hl : W.heap[l]? = some (.loop r)) (hr : r.state = .ready) (hs : args.size = r.params.size)
    (hA : ∀ K : Act → World → Prop, K A1 W → r.assign.wpIn (Fence.wide.inRound l) 0 P (Exit.then K (fun _ _ _ => False)) { tmps := (r.params.zip args).foldl (fun t (p, v) => t.setIfInBounds p v) r.tmps, defers := [] } W)
    (hB : r.body.wpIn (Fence.wide.inRound l) 0 P (roundEnd l r R) A1 (W.putObj l (.loop { r with state := .busy }))) : YieldAt Fence.wide 0 P l args W R := by
  refine ⟨r.fn, _, r.assign, r.body, run_yield hl hs, roundIn_of_wpIn trivial (hA _ ⟨_, run_beginRound hl hr, wpIn_mono hB ?_⟩)⟩
  rintro e a W' h
  cases e with
  | normal => exact ⟨_, _, run_endRound none h.1, h.2⟩
  | ret => exact ⟨_, _, run_endRound (some .ret) h.1, h.2⟩
  | exit id => exact ⟨_, _, run_endRound (some (.exit id)) h.1, h.2⟩
  | goto t => exact ⟨_, _, run_endRound (some (.goto t)) h.1, h.2⟩
  | panic ch => exact h.elim
  | outgrown => exact h.elim
/-- The same with the record under a name. -/
theorem range_named {g : Operand} {ps : Array Tmp} {assign body : Code} {Q : Exit → Act → World → Prop} {a : Act} {w : World} {gf : Nat} {lb : Array Value}
    (hg : a.eval g = .func (.func gf) #[] lb) (eg : ∀ args w, (callFunc gf args).run P w = .ok (.enter gf args) w)
    (hcall : ∀ (fn : FuncId) (lp : LoopState → Option Code → Loop), (∀ st pe, lp st pe = recOf fn a.tmps ps assign body w.heap.size st pe) →
      CallsIn Fence.wide 0 P gf (#[.func (.yield (w.heap.size + 1)) #[] #[]] ++ lb) ((w.alloc (.deferred (some []))).alloc (.loop (lp .ready none)))
      fun e W => (∃ v, e = .returned v) ∧ ∃ st pe, W.heap[w.heap.size + 1]? = some (.loop (lp st pe)) ∧ st ≠ .busy ∧ After P Q a w.heap.size pe (W.putObj (w.heap.size + 1) (.loop (lp .exhausted pe)))) :
    (Code.rangeFunc g ps assign body).wp P Q a w :=
  range_wp hg eg fun fn => hcall fn (fun st pe => recOf fn a.tmps ps assign body w.heap.size st pe) fun _ _ => rfl
def endOf (l : Nat) (lp : LoopState → Option Code → Loop) (R : Ending → World → Prop) : Exit → Act → World → Prop
  | .normal, _, W => W.heap[l]? = some (.loop (lp .busy none)) ∧ R (.returned (.bool true)) (W.putObj l (.loop (lp .ready none)))
  | .ret, _, W => W.heap[l]? = some (.loop (lp .busy none)) ∧ R (.returned (.bool false)) (W.putObj l (.loop (lp .done (some .ret))))
  | .exit id, _, W => W.heap[l]? = some (.loop (lp .busy none)) ∧ R (.returned (.bool false)) (W.putObj l (.loop (lp .done (some (.exit id)))))
  | .goto t, _, W => W.heap[l]? = some (.loop (lp .busy none)) ∧ R (.returned (.bool false)) (W.putObj l (.loop (lp .done (some (.goto t)))))
  | _, _, _ => False
theorem yield_named {fn : FuncId} {tmps : Array Value} {ps : Array Tmp} {assign body : Code} {D l : Nat} {lp : LoopState → Option Code → Loop} (hlp : ∀ st pe, lp st pe = recOf fn tmps ps assign body D st pe)
    {W : World} {args : Array Value} {R : Ending → World → Prop} {A1 : Act} (hl : W.heap[l]? = some (.loop (lp .ready none))) (hs : args.size = ps.size)
    (hA : ∀ K : Act → World → Prop, K A1 W → assign.wpIn (Fence.wide.inRound l) 0 P (Exit.then K (fun _ _ _ => False)) { tmps := (ps.zip args).foldl (fun t (p, v) => t.setIfInBounds p v) tmps, defers := [] } W)
    (hB : body.wpIn (Fence.wide.inRound l) 0 P (endOf l lp R) A1 (W.putObj l (.loop (lp .busy none)))) : YieldAt Fence.wide 0 P l args W R := by
  have e1 := hlp .ready none
  have e2 := hlp .busy none
  rw [e1] at hl
  rw [e2] at hB
  refine yield_at (r := recOf fn tmps ps assign body D .ready none) hl rfl hs hA (wpIn_mono hB ?_)
  rintro e a W' h
  cases e with
  | normal => simp only [endOf, hlp] at h; exact h
  | ret => simp only [endOf, hlp] at h; exact h
  | exit id => simp only [endOf, hlp] at h; exact h
  | goto t => simp only [endOf, hlp] at h; exact h
  | panic ch => exact h.elim
  | outgrown => exact h.elim
/-- The same where the assignment makes memory. -/
theorem yield_at2 {l : Nat} {r : Loop} {W Wa : World} {args : Array Value} {R : Ending → World → Prop} {A1 : Act} (hl : W.heap[l]? = some (.loop r)) (hr : r.state = .ready) (hs : args.size = r.params.size) (hl2 : Wa.heap[l]? = some (.loop r))
    (hA : ∀ K : Act → World → Prop, K A1 Wa → r.assign.wpIn (Fence.wide.inRound l) 0 P (Exit.then K (fun _ _ _ => False)) { tmps := (r.params.zip args).foldl (fun t (p, v) => t.setIfInBounds p v) r.tmps, defers := [] } W)
    (hB : r.body.wpIn (Fence.wide.inRound l) 0 P (roundEnd l r R) A1 (Wa.putObj l (.loop { r with state := .busy }))) : YieldAt Fence.wide 0 P l args W R := by
  refine ⟨r.fn, _, r.assign, r.body, run_yield hl hs, roundIn_of_wpIn trivial (hA _ ⟨_, run_beginRound hl2 hr, wpIn_mono hB ?_⟩)⟩
  rintro e a W' h
  cases e with
  | normal => exact ⟨_, _, run_endRound none h.1, h.2⟩
  | ret => exact ⟨_, _, run_endRound (some .ret) h.1, h.2⟩
  | exit id => exact ⟨_, _, run_endRound (some (.exit id)) h.1, h.2⟩
  | goto t => exact ⟨_, _, run_endRound (some (.goto t)) h.1, h.2⟩
  | panic ch => exact h.elim
  | outgrown => exact h.elim
theorem yield_named2 {fn : FuncId} {tmps : Array Value} {ps : Array Tmp} {assign body : Code} {D l : Nat} {lp : LoopState → Option Code → Loop} (hlp : ∀ st pe, lp st pe = recOf fn tmps ps assign body D st pe)
    {W : World} (Wa : World) {args : Array Value} {R : Ending → World → Prop} {A1 : Act} (hl : W.heap[l]? = some (.loop (lp .ready none))) (hl2 : Wa.heap[l]? = some (.loop (lp .ready none))) (hs : args.size = ps.size)
    (hA : ∀ K : Act → World → Prop, K A1 Wa → assign.wpIn (Fence.wide.inRound l) 0 P (Exit.then K (fun _ _ _ => False)) { tmps := (ps.zip args).foldl (fun t (p, v) => t.setIfInBounds p v) tmps, defers := [] } W)
    (hB : body.wpIn (Fence.wide.inRound l) 0 P (endOf l lp R) A1 (Wa.putObj l (.loop (lp .busy none)))) : YieldAt Fence.wide 0 P l args W R := by
  have e1 := hlp .ready none
  have e2 := hlp .busy none
  rw [e1] at hl hl2
  rw [e2] at hB
  refine yield_at2 (r := recOf fn tmps ps assign body D .ready none) hl rfl hs hl2 hA (wpIn_mono hB ?_)
  rintro e a W' h
  cases e with
  | normal => simp only [endOf, hlp] at h; exact h
  | ret => simp only [endOf, hlp] at h; exact h
  | exit id => simp only [endOf, hlp] at h; exact h
  | goto t => simp only [endOf, hlp] at h; exact h
  | panic ch => exact h.elim
  | outgrown => exact h.elim
/-- A function leaves with marks: each one's block is shut. -/
def leaves (P : Program) (fn : Func) (tmps : Array Value) (R : Ending → World → Prop) : List Deferred → World → Prop
  | [], w => ∃ v, (results fn tmps).run P w = .ok v w ∧ R (.returned v) w
  | d :: ds, w => ∃ r, d.target = .collected r ∧ w.heap[r]? = some (.deferred (some [])) ∧ leaves P fn tmps R ds (w.putObj r (.deferred none))
def postM (P : Program) (fn : Func) (R : Ending → World → Prop) : Exit → Act → World → Prop
  | .normal, a, w | .ret, a, w => leaves P fn a.tmps R a.defers w
  | _, _, _ => False
theorem leavesM {fn : Func} {tmps : Array Value} {R : Ending → World → Prop} : ∀ (ds : List Deferred) (w : World), leaves P fn tmps R ds w → LeavesInM Fence.wide 0 P fn tmps R ds .returning w
  | [], _, h => h
  | _ :: ds, w, ⟨r, h1, h2, h3⟩ => ⟨by simp, .inl ⟨r, _, h1, run_takeDeferred h2, leavesM ds _ h3⟩⟩
theorem calls_marks {f : FuncId} {fn : Func} {c : Code} {args : Array Value} {w : World} {R : Ending → World → Prop} (hf : P.funcs[f]? = some fn) (hb : fn.body = some c)
    (h : c.wp P (postM P fn R) { tmps := args ++ Array.replicate (fn.ntmps - args.size) undef, defers := [] } w) : Calls P f args w R := by
  refine (callsIn_wide (n := 0)).1 (callsIn_of_wp_marks hf hb trivial (wpIn_mono ((wpIn_wide (n := 0)).2 h) ?_))
  rintro e a W hq
  cases e with
  | normal => exact leavesM _ _ hq
  | ret => exact leavesM _ _ hq
  | _ => exact hq.elim
theorem postM_ret {fn : Func} {R : Ending → World → Prop} {a : Act} {w : World} {v : Value} (hd : a.defers = []) (hr : (results fn a.tmps).run P w = .ok v w) (hR : R (.returned v) w) : postM P fn R .ret a w := by
  show leaves P fn a.tmps R a.defers w
  rw [hd]; exact ⟨v, hr, hR⟩
theorem postM_ret1 {fn : Func} {R : Ending → World → Prop} {a : Act} {w : World} {v : Value} {D : Nat} (hd : a.defers = [{ target := .collected D, args := #[] }]) (hk : w.heap[D]? = some (.deferred (some [])))
    (hr : (results fn a.tmps).run P (w.putObj D (.deferred none)) = .ok v (w.putObj D (.deferred none))) (hR : R (.returned v) (w.putObj D (.deferred none))) : postM P fn R .ret a w := by
  show leaves P fn a.tmps R a.defers w
  rw [hd]; exact ⟨D, rfl, hk, v, hr, hR⟩
end Go.Rng
