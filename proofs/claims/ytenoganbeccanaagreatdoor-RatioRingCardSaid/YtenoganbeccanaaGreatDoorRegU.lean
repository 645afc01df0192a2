/- REGIONS THAT DRAW THEIR ORDER, each operation walked once: outside and inside a fence. -/
import Derived.Test.YtenoganbeccanaaGreatDoorRG
import Derived.OrdersIn
import Derived.TacticsIn
namespace Go.Once
open Go
variable {P : Program} {ops : Array Oper} {Q : Exit → Act → World → Prop} {a0 : Act} {R : Nat → Value → World → Prop} {J : World → Prop} {T : World → World → Prop}

theorem tail_all : Region.ready .any ops (tailL ops.size ops.size) = [] := by
  apply List.eq_nil_iff_forall_not_mem.2
  intro i hi
  obtain ⟨h1, o, ho, -⟩ := mem_ready.1 hi
  have hlt := (Array.getElem?_eq_some_iff.1 ho).1
  rw [tail_getD _ _ _ hlt, decide_eq_true hlt] at h1
  cases h1
theorem wpAny_nil {fuel : Nat} {L : Array Bool} {a : Act} {w : World} (h1 : Region.ready .any ops L = []) (h : Q .normal a w) : wpAny P .any ops Q fuel L a w := by
  cases fuel with
  | zero => exact ⟨h1, h⟩
  | succ f => exact ⟨fun _ => h, fun i hi => by rw [h1] at hi; cases hi⟩
theorem wpAny_whole (w : World) (hok : okRegN ops ops.size = true) (hlate : lateB ops ops.size = true) (hT : ∀ i u w w', R i u w → T w w' → R i u w') (hJ : J w)
    (hstep : ∀ i o, i < ops.size → ops[i]? = some o → StepN P ops ops.size a0 R J T i o)
    (hfin : ∀ vs w, J w → (∀ i, i < ops.size → R i (vs i) w) → Q .normal (putL ops vs (List.range ops.size) a0) w) : wpAny P .any ops Q ops.size (Array.replicate ops.size false) a0 w := by
  have hn : ∀ i, i < ops.size → (Array.replicate ops.size false).getD i true = false := by
    intro i h1
    simp [h1]
  refine wpAny_tail ops.size (Nat.le_refl _) hok hlate hT hstep (fun fuel vs w _ hJ hR => wpAny_nil tail_all (hfin vs w hJ hR)) ops.size _ a0 w (fun _ => undef) (by simp) ?_ (fun i _ h => hn i h) (fun j o hj h => ?_) hJ ?_ ?_
  · exact Nat.le_trans (List.length_filter_le _ _) (by simp)
  · rw [hn j (Array.getElem?_eq_some_iff.1 hj).1] at h; cases h
  · exact ⟨rfl, rfl, fun i t h => (by have h2 := h.2; rw [hn i h.1] at h2; cases h2), fun _ _ => rfl⟩
  · intro i h1 h2
    rw [hn i h1] at h2; cases h2
/-- The whole region, outside a fence. -/
theorem wp_region_whole {id : Nat} {w : World} (hm : P.follows .mixedOrders = true) (hok : okRegN ops ops.size = true) (hlate : lateB ops ops.size = true) (hT : ∀ i u w w', R i u w → T w w' → R i u w') (hJ : J w.drew)
    (hstep : ∀ i o, i < ops.size → ops[i]? = some o → StepN P ops ops.size a0 R J T i o)
    (hfin : ∀ vs w, J w → (∀ i, i < ops.size → R i (vs i) w) → Q .normal (putL ops vs (List.range ops.size) a0) w) : (Code.region id ops true).wp P Q a0 w :=
  wp_region_any hm (wpAny_whole w.drew hok hlate hT hJ hstep hfin)
/-- Operations that only move, read, build and store. -/
def plainK : Op → Bool
  | .move _ | .assign _ | .build _ _ | .load _ _ | .store _ _ _ | .fieldAddr _ _ _ | .indexAddr _ _ _ => true
  | _ => false
def plainB (ops : Array Oper) : Bool := ops.all fun o => plainK o.op
theorem plain_run {o : Oper} (h : plainK o.op = true) (ρ : Operand → Value) (w : World) : ∀ r w', (execOp ρ o).run P w = .ok r w' → (∃ v, r = .value v) ∨ r = .skip := by
  intro r w' hr
  have kv : ∀ s : Sem Value, (do pure (Next.value (← s)) : Sem Next).run P w = .ok r w' → ∃ v, r = .value v := fun s hs => by
    rw [Sem.run_bind] at hs
    cases q : s.run P w with
    | ok v w2 => rw [q] at hs; simp [Result.andThen] at hs; exact ⟨v, hs.1.symm⟩
    | halt x w2 => rw [q] at hs; simp [Result.andThen] at hs
  have ku : ∀ s : Sem Unit, (do s; pure Next.skip : Sem Next).run P w = .ok r w' → r = .skip := fun s hs => by
    rw [Sem.run_bind] at hs
    cases q : s.run P w with
    | ok v w2 => rw [q] at hs; simp [Result.andThen] at hs; exact hs.1.symm
    | halt x w2 => rw [q] at hs; simp [Result.andThen] at hs
  unfold execOp at hr
  generalize o.op = op at h hr
  cases op <;> simp only [plainK] at h <;> try (cases h; done)
  case move x => simp at hr; exact .inl ⟨_, hr.1.symm⟩
  case assign x => simp at hr; exact .inl ⟨_, hr.1.symm⟩
  case build t p => exact .inl (kv _ hr)
  case load t p => exact .inl (kv _ hr)
  case store t p x => exact .inr (ku _ hr)
  case fieldAddr t p x => exact .inl (kv _ hr)
  case indexAddr t p x => exact .inl (kv _ hr)
theorem plain_call {o : Oper} (h : plainK o.op = true) : (∀ c, o.op ≠ .call c) ∧ (∀ c, o.op ≠ .defer c) := by
  constructor
  · intro c e; rw [e] at h; simp [plainK] at h
  · intro c e; rw [e] at h; simp [plainK] at h
theorem wpAnyIn_plain {F : Fence} {n : Nat} (hp : plainB ops = true) : ∀ (fuel : Nat) (L : Array Bool) (a : Act) (w : World), wpAny P .any ops (fun e a w => e = .normal ∧ Q .normal a w) fuel L a w → wpAnyIn F n P .any ops Q fuel L a w := by
  intro fuel
  induction fuel with
  | zero => intro L a w h; exact ⟨h.1, h.2.2⟩
  | succ fuel ih =>
    intro L a w h
    refine ⟨fun hr => (h.1 hr).2, fun i hi => ?_⟩
    have hw := h.2 i hi
    obtain ⟨-, o, ho, -⟩ := mem_ready.1 hi
    unfold wpOp at hw
    unfold wpOpIn
    simp only [ho] at hw ⊢
    have hk : plainK o.op = true := by
      have := Array.all_eq_true_iff_forall_mem.1 hp o (Array.mem_of_getElem? ho)
      exact this
    obtain ⟨hc, hd⟩ := plain_call hk
    have hab : ∀ ρ, o.about P w ρ = none := fun ρ => by
      unfold Oper.about
      cases ho : o.op <;> first | rfl | exact absurd ho (hc _)
    split
    · rename_i hwant
      rw [if_pos hwant] at hw
      have hw2 := hw.resolve_right (fun q => by obtain ⟨-, _, _, e, -⟩ := q; cases e)
      unfold Oper.wp at hw2
      unfold Oper.wpIn
      refine ⟨fun f hf => (by rw [hab] at hf; cases hf), ?_⟩
      rw [Oper.semAt_eq _ _ _ hd]
      cases hr : (execOp a.eval o).run P w with
      | ok r w' =>
        rw [hr] at hw2
        rcases plain_run hk a.eval w r w' hr with ⟨v, rfl⟩ | rfl
        · exact ih _ _ _ hw2
        · exact ih _ _ _ hw2
      | halt x w' =>
        rw [hr] at hw2
        cases x <;> simp only [Oper.upon] at hw2
        case panic v => exact absurd hw2.1 (by simp)
        all_goals exact hw2.elim
    · rename_i hwant
      rw [if_neg hwant] at hw
      exact ⟨fun f hf => (by rw [hab] at hf; cases hf), ih _ _ _ hw⟩
/-- The whole region, inside a fence. -/
theorem wpIn_region_whole {F : Fence} {n id : Nat} {w : World} (hm : P.follows .mixedOrders = true) (hp : plainB ops = true) (hok : okRegN ops ops.size = true) (hlate : lateB ops ops.size = true) (hT : ∀ i u w w', R i u w → T w w' → R i u w') (hJ : J w.drew)
    (hstep : ∀ i o, i < ops.size → ops[i]? = some o → StepN P ops ops.size a0 R J T i o)
    (hfin : ∀ vs w, J w → (∀ i, i < ops.size → R i (vs i) w) → Q .normal (putL ops vs (List.range ops.size) a0) w) : (Code.region id ops true).wpIn F n P Q a0 w :=
  wpIn_region_any hm (wpAnyIn_plain hp _ _ _ _ (wpAny_whole w.drew hok hlate hT hJ hstep (fun vs w h1 h2 => ⟨rfl, hfin vs w h1 h2⟩)))
theorem wpIn_ops {ops' : Array Oper} {F : Fence} {n id : Nat} {a : Act} {w : World} (h : ops' = ops) (hh : (Code.region id ops' true).wpIn F n P Q a w) : (Code.region id ops true).wpIn F n P Q a w := h ▸ hh
/-- An operation that is wanted, and makes no value. -/
theorem Step.skip {i n N : Nat} {o : Oper} (hsz : a0.tmps.size = n) (hd : dstB ops = true)
    (h : ∀ vs w b, J w → (∀ j ∈ depsN ops N o, R j (vs j) w) → Sees ops N a0 n o vs b → Region.wanted o (yielded ops b.tmps) = true ∧ ∃ w', (execOp b.eval o).run P w = .ok .skip w' ∧ R i undef w' ∧ J w' ∧ T w w') : StepN P ops N a0 R J T i o := by
  intro vs w hJ hD K hK
  obtain ⟨h1, w', hr, h2, h3, h4⟩ := h vs w _ hJ hD (sees hsz hd o vs)
  rw [if_pos h1]
  unfold Oper.wp
  rw [hr]
  exact hK undef w' h2 h3 h4
end Go.Once
