/- REGIONS THAT DRAW THEIR ORDER: each operation is walked once, whatever the order. -/
import Derived.Orders
import Derived.WalkKit
import Derived.OrdersIn
import Derived.TacticsIn
namespace Go.Once
open Go
variable {P : Program} {ops : Array Oper} {Q : Exit → Act → World → Prop}

def dstOf (ops : Array Oper) (i : Nat) : Option Tmp := (ops[i]?).bind (·.dst)
/-- The operations whose results an operation looks at. -/
def depsOf (ops : Array Oper) (o : Oper) : List Nat := (List.range ops.size).filter fun j => match dstOf ops j with | some d => (o.looksAt ops).contains d | none => false
def putL (ops : Array Oper) (vs : Nat → Value) (L : List Nat) (a : Act) : Act := L.foldl (fun a j => a.put (dstOf ops j) (vs j)) a
def okReg (ops : Array Oper) : Bool :=
  Region.noSelect ops &&
  ((List.range ops.size).all fun i => (List.range i).all fun j => match dstOf ops i with | some d => dstOf ops j != some d | none => true) &&
  ((List.range ops.size).all fun i => match ops[i]? with
    | some o => (o.after.all fun e => !Region.binds .any e || decide (e.on < i)) && ((depsOf ops o).all fun j => o.after.any fun e => Region.binds .any e && e.on == j)
    | none => true)
abbrev NoQ : Exit → Act → World → Prop := fun _ _ _ => False

/-- What the temporaries hold when the operations of M have come up. -/
structure Pt (ops : Array Oper) (a0 : Act) (vs : Nat → Value) (M : Nat → Prop) (a : Act) : Prop where
  defers : a.defers = a0.defers
  size : a.tmps.size = a0.tmps.size
  got : ∀ i t, M i → dstOf ops i = some t → t < a0.tmps.size → a.tmps[t]? = some (vs i)
  rest : ∀ t, (∀ i, M i → dstOf ops i ≠ some t) → a.tmps[t]? = a0.tmps[t]?

theorem put_defers (a : Act) (x : Option Tmp) (v : Value) : (a.put x v).defers = a.defers := by cases x <;> rfl
theorem put_size (a : Act) (x : Option Tmp) (v : Value) : (a.put x v).tmps.size = a.tmps.size := by cases x <;> simp [Act.put]
theorem put_same {a : Act} {t : Tmp} {v : Value} (h : t < a.tmps.size) : (a.put (some t) v).tmps[t]? = some v := by simp [Act.put, h]
theorem put_other {a : Act} {x : Option Tmp} {t : Tmp} {v : Value} (h : x ≠ some t) : (a.put x v).tmps[t]? = a.tmps[t]? := by
  cases x with
  | none => rfl
  | some d => simp [Act.put, Array.getElem?_setIfInBounds_ne (show d ≠ t from fun e => h (by rw [e]))]
theorem put_eq {a b : Act} {x : Option Tmp} {u v : Value} (hs : a.tmps.size = b.tmps.size) (h : b.put x u = b.put x v) : a.put x u = a.put x v := by
  cases x with
  | none => rfl
  | some d =>
    by_cases hd : d < b.tmps.size
    · have h1 := put_same (v := u) hd
      rw [h, put_same hd] at h1
      rw [Option.some.inj h1]
    · have e : ∀ v, a.put (some d) v = a := fun v => by
        have hd' : ¬ d < a.tmps.size := fun q => hd (hs ▸ q)
        simp [Act.put, Array.setIfInBounds, hd']
      rw [e u, e v]
theorem Pt.nil (a0 : Act) (vs : Nat → Value) : Pt ops a0 vs (fun _ => False) a0 := ⟨rfl, rfl, fun _ _ h => h.elim, fun _ _ => rfl⟩
theorem Pt.put {a0 a : Act} {vs : Nat → Value} {M : Nat → Prop} (h : Pt ops a0 vs M a) {i : Nat} (hM : ¬ M i) (hd : ∀ j t, M j → dstOf ops i = some t → dstOf ops j ≠ some t) (u : Value) :
    Pt ops a0 (fun k => if k = i then u else vs k) (fun k => M k ∨ k = i) (a.put (dstOf ops i) u) := by
  refine ⟨(put_defers _ _ _).trans h.defers, (put_size _ _ _).trans h.size, ?_, ?_⟩
  · rintro j t (hj | rfl) ht hlt
    · have hji : j ≠ i := fun e => hM (e ▸ hj)
      rw [put_other (fun e => hd j t hj e ht), if_neg hji]
      exact h.got j t hj ht hlt
    · rw [ht, put_same (by rw [h.size]; exact hlt), if_pos rfl]
  · intro t ht
    rw [put_other (ht i (.inr rfl))]
    exact h.rest t fun j hj => ht j (.inl hj)
theorem Pt.putL {a0 : Act} {vs : Nat → Value} (hd : ∀ i j t, i ≠ j → dstOf ops i = some t → dstOf ops j ≠ some t) : ∀ (L : List Nat) {a : Act} {M : Nat → Prop}, Pt ops a0 vs M a → L.Nodup → (∀ i ∈ L, ¬ M i) → Pt ops a0 vs (fun k => M k ∨ k ∈ L) (putL ops vs L a)
  | [], a, M, h, _, _ => by
    refine ⟨h.defers, h.size, fun i t hi => h.got i t (by simpa using hi), fun t ht => h.rest t fun i hi => ht i (.inl hi)⟩
  | i :: L, a, M, h, hn, hM => by
    rw [List.nodup_cons] at hn
    have h1 := h.put (hM i (by simp)) (fun j t hj hi => hd i j t (fun e => hM i (by simp) (e ▸ hj)) hi) (vs i)
    have h2 : Pt ops a0 vs (fun k => M k ∨ k = i) (a.put (dstOf ops i) (vs i)) := by
      refine ⟨h1.defers, h1.size, fun j t hj ht hlt => ?_, h1.rest⟩
      have := h1.got j t hj ht hlt
      by_cases e : j = i
      · subst e; simpa using this
      · simpa [e] using this
    have h3 := Pt.putL hd L h2 hn.2 (fun j hj => by
      rintro (q | q)
      · exact hM j (List.mem_cons_of_mem _ hj) q
      · exact hn.1 (q ▸ hj))
    refine ⟨h3.defers, h3.size, fun j t hj => h3.got j t ?_, fun t ht => h3.rest t fun j hj => ht j ?_⟩
    · rcases hj with hj | hj
      · exact .inl (.inl hj)
      · rcases List.mem_cons.1 hj with q | hj
        · exact .inl (.inr q)
        · exact .inr hj
    · rcases hj with (hj | hj) | hj
      · exact .inl hj
      · exact .inr (by rw [hj]; simp)
      · exact .inr (List.mem_cons_of_mem _ hj)
theorem Pt.eq {a0 a b : Act} {vs : Nat → Value} {M M' : Nat → Prop} (ha : Pt ops a0 vs M a) (hb : Pt ops a0 vs M' b) (hm : ∀ i t, dstOf ops i = some t → M i ∧ M' i) : a = b := by
  obtain ⟨x, dx⟩ := a
  obtain ⟨y, dy⟩ := b
  have h1 : dx = dy := ha.defers.trans hb.defers.symm
  subst h1
  congr 1
  apply Array.ext_getElem?
  intro t
  by_cases h : ∃ i, dstOf ops i = some t
  · obtain ⟨i, hi⟩ := h
    obtain ⟨m1, m2⟩ := hm i t hi
    by_cases hlt : t < a0.tmps.size
    · exact (ha.got i t m1 hi hlt).trans (hb.got i t m2 hi hlt).symm
    · have s1 := ha.size; have s2 := hb.size
      simp only at s1 s2
      rw [Array.getElem?_eq_none (by omega), Array.getElem?_eq_none (by omega)]
  · have hn : ∀ i, dstOf ops i ≠ some t := fun i e => h ⟨i, e⟩
    exact (ha.rest t fun i _ => hn i).trans (hb.rest t fun i _ => hn i).symm

/-- An operation looks at its own temporaries alone. -/
theorem wp_local {o : Oper} {a b : Act} {w : World} {G : Value → World → Prop} {K' : Act → World → Prop} (hs : ∀ cs c, o.op ≠ .select cs c)
    (hsz : a.tmps.size = b.tmps.size) (he : ∀ t ∈ o.looksAt ops, a.tmps[t]? = b.tmps[t]?) (hK : ∀ u w', G u w' → K' (a.put o.dst u) w')
    (h : o.wp P b w (fun a' w' => ∃ u, a' = b.put o.dst u ∧ G u w') NoQ) : o.wp P a w K' Q := by
  have hop : ∀ x ∈ o.op.operands, a.eval x = b.eval x := fun x hx => by
    cases x with
    | tmp t =>
      have := he t (List.mem_append_left _ (List.mem_filterMap.2 ⟨.tmp t, by simpa using hx, rfl⟩))
      simp only [Act.eval, Array.getD_eq_getD_getElem?, this]
    | _ => rfl
  have fin : ∀ u w', (∃ u', b.put o.dst u = b.put o.dst u' ∧ G u' w') → K' (a.put o.dst u) w' := fun u w' ⟨u', e, g⟩ => by
    rw [put_eq hsz e]; exact hK _ _ g
  unfold Oper.wp at *
  rw [execOp_congr o hs hop]
  generalize (execOp b.eval o).run P w = r at *
  cases r with
  | ok n w' =>
    cases n <;> simp only [Oper.upon] at h ⊢
    case value u => exact fin _ _ h
    case skip => exact fin _ _ h
    case defer d =>
      obtain ⟨u, e, -⟩ := h
      have := congrArg Act.defers e
      rw [put_defers, put_defers] at this
      have := congrArg List.length this
      simp at this
    case enter f args =>
      refine Calls.mono h fun e w'' he => ?_
      cases e with
      | returned u => exact fin _ _ he
      | panicked c => exact he.elim
      | outgrown => obtain ⟨_, _, q⟩ := he; exact q.elim
    case row row args => exact Rows.mono h fun u w'' he => fin _ _ he
  | halt x w' =>
    cases x <;> simp only [Oper.upon] at h
    exact h.elim

/-- An operation's step, at its own temporaries alone. -/
def Step (P : Program) (ops : Array Oper) (a0 : Act) (R : Nat → Value → World → Prop) (J : World → Prop) (T : World → World → Prop) (i : Nat) (o : Oper) : Prop :=
  ∀ (vs : Nat → Value) (w : World), J w → (∀ j ∈ depsOf ops o, R j (vs j) w) → ∀ K : Act → World → Prop,
    (∀ u w', R i u w' → J w' → T w w' → K ((putL ops vs (depsOf ops o) a0).put o.dst u) w') →
    if Region.wanted o (yielded ops (putL ops vs (depsOf ops o) a0).tmps) = true then o.wp P (putL ops vs (depsOf ops o) a0) w K NoQ else K ((putL ops vs (depsOf ops o) a0).put o.dst undef) w

section
variable {a0 : Act} {R : Nat → Value → World → Prop} {J : World → Prop} {T : World → World → Prop}
/-- **A REGION THAT DRAWS ITS ORDER, EACH OPERATION WALKED ONCE.** -/
theorem wpAny_once (hok : okReg ops = true) (hT : ∀ i u w w', R i u w → T w w' → R i u w') (hstep : ∀ i o, ops[i]? = some o → Step P ops a0 R J T i o)
    (hfin : ∀ vs w, J w → (∀ i, i < ops.size → R i (vs i) w) → Q .normal (putL ops vs (List.range ops.size) a0) w) :
    ∀ (fuel : Nat) (listed : Array Bool) (a : Act) (w : World) (vs : Nat → Value), listed.size = ops.size → ((List.range ops.size).filter fun i => !listed.getD i true).length ≤ fuel → J w → Pt ops a0 vs (fun i => i < ops.size ∧ listed.getD i true = true) a →
      (∀ i, i < ops.size → listed.getD i true = true → R i (vs i) w) → wpAny P .any ops Q fuel listed a w := by
  simp only [okReg, Bool.and_eq_true, List.all_eq_true, List.mem_range] at hok
  obtain ⟨⟨hsel, hdst⟩, hedge⟩ := hok
  have hd : ∀ i j t, i ≠ j → dstOf ops i = some t → dstOf ops j ≠ some t := by
    intro i j t hij hi hj
    have hlt : ∀ {k}, dstOf ops k = some t → k < ops.size := fun {k} h => by
      unfold dstOf at h
      rcases Nat.lt_or_ge k ops.size with q | q
      · exact q
      · rw [Array.getElem?_eq_none q] at h; cases h
    rcases Nat.lt_or_ge i j with q | q
    · have := hdst j (hlt hj) i q
      rw [hj] at this
      simp [hi] at this
    · have := hdst i (hlt hi) j (by omega)
      rw [hi] at this
      simp [hj] at this
  -- all have come up
  have done : ∀ (listed : Array Bool) (a : Act) (w : World) (vs : Nat → Value), (∀ i, i < ops.size → listed.getD i true = true) → J w → Pt ops a0 vs (fun i => i < ops.size ∧ listed.getD i true = true) a →
      (∀ i, i < ops.size → listed.getD i true = true → R i (vs i) w) → Q .normal a w := by
    intro listed a w vs hall hJ hPt hR
    have hp := Pt.putL hd (List.range ops.size) (Pt.nil (ops := ops) a0 vs) List.nodup_range (fun _ _ h => h)
    rw [hPt.eq hp fun i t ht => ?_]
    · exact hfin vs w hJ fun i hi => hR i hi (hall i hi)
    · have hi : i < ops.size := by
        unfold dstOf at ht
        rcases Nat.lt_or_ge i ops.size with q | q
        · exact q
        · rw [Array.getElem?_eq_none q] at ht; cases ht
      exact ⟨⟨hi, hall i hi⟩, .inr (List.mem_range.2 hi)⟩
  have least : ∀ (listed : Array Bool), listed.size = ops.size → Region.ready .any ops listed = [] → ∀ i, i < ops.size → listed.getD i true = true := by
    intro listed hls hr i
    induction i using Nat.strongRecOn with
    | _ i ih =>
      intro hi
      cases q : listed.getD i true with
      | true => rfl
      | false =>
        have : i ∈ Region.ready .any ops listed := by
          rw [mem_ready]
          refine ⟨q, ops[i], Array.getElem?_eq_getElem hi, fun e he hb => ?_⟩
          have h := hedge i hi
          rw [Array.getElem?_eq_getElem hi] at h
          simp only [Bool.and_eq_true, Array.all_eq_true_iff_forall_mem] at h
          have h1 := h.1 e he
          rw [hb] at h1
          have hlt : e.on < i := by simpa using h1
          have h2 := ih e.on hlt (by omega)
          simp only [Array.getD_eq_getD_getElem?] at h2 ⊢
          rw [Array.getElem?_eq_getElem (by omega)] at h2 ⊢
          exact h2
        rw [hr] at this; cases this
  intro fuel
  induction fuel with
  | zero =>
    intro listed a w vs hls hf hJ hPt hR
    have hall : ∀ i, i < ops.size → listed.getD i true = true := by
      intro i hi
      cases q : listed.getD i true with
      | true => rfl
      | false =>
        have : i ∈ (List.range ops.size).filter fun i => !listed.getD i true := List.mem_filter.2 ⟨List.mem_range.2 hi, by rw [q]; rfl⟩
        have := List.length_pos_of_mem this
        omega
    refine ⟨?_, done listed a w vs hall hJ hPt hR⟩
    apply List.eq_nil_iff_forall_not_mem.2
    intro i hi
    obtain ⟨h1, o, ho, -⟩ := mem_ready.1 hi
    have := hall i (Array.getElem?_eq_some_iff.1 ho).1
    rw [this] at h1; cases h1
  | succ fuel ih =>
    intro listed a w vs hls hf hJ hPt hR
    refine ⟨fun hr => done listed a w vs (least listed hls hr) hJ hPt hR, fun i hi => ?_⟩
    obtain ⟨hun, o, ho, hready⟩ := mem_ready.1 hi
    have hi' : i < ops.size := (Array.getElem?_eq_some_iff.1 ho).1
    have hdi : dstOf ops i = o.dst := by unfold dstOf; rw [ho]; rfl
    -- what it looks at has come up
    have hdep : ∀ j ∈ depsOf ops o, j < ops.size ∧ listed.getD j true = true := by
      intro j hj
      have hjs : j < ops.size := List.mem_range.1 (List.mem_filter.1 hj).1
      refine ⟨hjs, ?_⟩
      have h := hedge i hi'
      rw [ho] at h
      simp only [Bool.and_eq_true, List.all_eq_true] at h
      have h2 := h.2 j hj
      obtain ⟨e, he, h3⟩ := Array.any_eq_true'.1 h2
      simp only [Bool.and_eq_true, beq_iff_eq] at h3
      have h4 := hready e he h3.1
      rw [h3.2] at h4
      simp only [Array.getD_eq_getD_getElem?] at h4 ⊢
      rw [Array.getElem?_eq_getElem (by omega)] at h4 ⊢
      exact h4
    have hb := Pt.putL hd (depsOf ops o) (Pt.nil (ops := ops) a0 vs) (List.nodup_range.sublist List.filter_sublist) (fun _ _ h => h)
    obtain ⟨b, hbe⟩ : ∃ b, putL ops vs (depsOf ops o) a0 = b := ⟨_, rfl⟩
    have hst := hstep i o ho vs w hJ (fun j hj => hR j (hdep j hj).1 (hdep j hj).2) (fun a' w' => ∃ u, a' = b.put o.dst u ∧ (R i u w' ∧ J w' ∧ T w w'))
      (fun u w' h1 h2 h3 => ⟨u, by rw [hbe], h1, h2, h3⟩)
    rw [hbe] at hb hst
    have hsz : a.tmps.size = b.tmps.size := hPt.size.trans hb.size.symm
    have hag : ∀ t ∈ o.looksAt ops, a.tmps[t]? = b.tmps[t]? := by
      intro t ht
      by_cases h : ∃ j, dstOf ops j = some t
      · obtain ⟨j, hj⟩ := h
        have hjs : j < ops.size := by
          unfold dstOf at hj
          rcases Nat.lt_or_ge j ops.size with q | q
          · exact q
          · rw [Array.getElem?_eq_none q] at hj; cases hj
        have hjd : j ∈ depsOf ops o := List.mem_filter.2 ⟨List.mem_range.2 hjs, by rw [hj]; simpa using ht⟩
        by_cases hlt : t < a0.tmps.size
        · exact (hPt.got j t (hdep j hjd) hj hlt).trans (hb.got j t (.inr hjd) hj hlt).symm
        · have s1 := hPt.size; have s2 := hb.size
          rw [Array.getElem?_eq_none (by rw [s1]; exact Nat.not_lt.1 hlt), Array.getElem?_eq_none (by rw [s2]; exact Nat.not_lt.1 hlt)]
      · have hn : ∀ j, dstOf ops j ≠ some t := fun j e => h ⟨j, e⟩
        exact (hPt.rest t fun j _ => hn j).trans (hb.rest t fun j _ => hn j).symm
    have hwant : Region.wanted o (yielded ops a.tmps) = Region.wanted o (yielded ops b.tmps) := by
      unfold Region.wanted
      cases hg : o.guard with
      | none => rfl
      | some gw =>
        obtain ⟨g, want⟩ := gw
        have hy : yielded ops a.tmps g = yielded ops b.tmps g := by
          unfold yielded
          cases hq : (ops[g]?).bind (·.dst) with
          | none => rfl
          | some t =>
            have : a.tmps[t]? = b.tmps[t]? := hag t (List.mem_append_right _ (by rw [hg]; simp only; rw [hq]; simp))
            simp only [Option.bind_some, this]
        simp only [hy]
    -- behind it
    have next : ∀ u w', R i u w' ∧ J w' ∧ T w w' → wpAny P .any ops Q fuel (listed.setIfInBounds i true) (a.put o.dst u) w' := by
      rintro u w' ⟨h1, h2, h3⟩
      have hMi : ¬ (i < ops.size ∧ listed.getD i true = true) := fun h => by rw [hun] at h; cases h.2
      have hp := hPt.put hMi (fun j t hj hi2 => hd i j t (fun e => hMi (by rw [e]; exact hj)) hi2) u
      rw [hdi] at hp
      have hgi : (listed.setIfInBounds i true).getD i true = true := by
        simp only [Array.getD_eq_getD_getElem?]
        rw [Array.getElem?_setIfInBounds_self_of_lt (by omega)]; rfl
      have hgo : ∀ k, k ≠ i → (listed.setIfInBounds i true).getD k true = listed.getD k true := fun k hk => getD_set_ne true (Ne.symm hk)
      refine ih _ _ _ (fun k => if k = i then u else vs k) (by simpa using hls) ?_ h2 ⟨hp.defers, hp.size, fun k t hk => hp.got k t ?_, fun t ht => hp.rest t fun k hk => ht k ?_⟩ ?_
      · have hsub : ((List.range ops.size).filter fun k => !(listed.setIfInBounds i true).getD k true) = (((List.range ops.size).filter fun k => !listed.getD k true).filter fun k => k != i) := by
          rw [List.filter_filter]
          refine List.filter_congr fun k _ => ?_
          by_cases hk : k = i
          · subst hk; rw [hgi]; simp
          · rw [hgo k hk]; simp [hk]
        rw [hsub]
        have hin : i ∈ (List.range ops.size).filter fun k => !listed.getD k true := List.mem_filter.2 ⟨List.mem_range.2 hi', by rw [hun]; rfl⟩
        have : (((List.range ops.size).filter fun k => !listed.getD k true).filter fun k => k != i).length < ((List.range ops.size).filter fun k => !listed.getD k true).length :=
          List.length_filter_lt_length_iff_exists.2 ⟨i, hin, by simp⟩
        omega
      · by_cases e : k = i
        · exact .inr e
        · rw [hgo k e] at hk; exact .inl hk
      · rcases hk with hk | hk
        · by_cases e : k = i
          · subst e; exact ⟨hi', hgi⟩
          · rw [hgo k e]; exact hk
        · subst hk; exact ⟨hi', hgi⟩
      · intro k hk hkl
        by_cases e : k = i
        · subst e; simpa using h1
        · simp only [if_neg e]
          rw [hgo k e] at hkl
          exact hT _ _ _ _ (hR k hk hkl) h3
    unfold wpOp
    simp only [ho]
    rw [hwant]
    split
    · rename_i hw
      rw [if_pos hw] at hst
      exact .inl (wp_local (Region.noSelect_spec hsel i o · · ho) hsz hag next hst)
    · rename_i hw
      rw [if_neg hw] at hst
      obtain ⟨u, e, hu⟩ := hst
      rw [put_eq hsz e]
      exact next u w hu
theorem wp_region_once {id : Nat} {w : World} (hm : P.follows .mixedOrders = true) (hok : okReg ops = true) (hT : ∀ i u w w', R i u w → T w w' → R i u w') (hJ : J w.drew) (hstep : ∀ i o, ops[i]? = some o → Step P ops a0 R J T i o)
    (hfin : ∀ vs w, J w → (∀ i, i < ops.size → R i (vs i) w) → Q .normal (putL ops vs (List.range ops.size) a0) w) : (Code.region id ops true).wp P Q a0 w := by
  refine wp_region_any hm (wpAny_once hok hT hstep hfin ops.size _ a0 w.drew (fun _ => undef) (by simp) ?_ hJ ?_ ?_)
  · exact Nat.le_trans (List.length_filter_le _ _) (by simp)
  · have hn : ∀ i, ¬ (i < ops.size ∧ (Array.replicate ops.size false).getD i true = true) := by
      rintro i ⟨h1, h2⟩
      simp [h1] at h2
    exact ⟨rfl, rfl, fun i t h => absurd h (hn i), fun _ _ => rfl⟩
  · intro i h1 h2
    simp [h1] at h2
end
end Go.Once
/- REGIONS THAT DRAW THEIR ORDER, up to a last part that comes up in order. -/
namespace Go.Once
open Go
variable {P : Program} {ops : Array Oper} {Q : Exit → Act → World → Prop}

/-- Of the first part, the operations whose results an operation looks at. -/
def depsN (ops : Array Oper) (N : Nat) (o : Oper) : List Nat := (List.range N).filter fun j => match dstOf ops j with | some d => (o.looksAt ops).contains d | none => false
def okRegN (ops : Array Oper) (N : Nat) : Bool :=
  Region.noSelect ops &&
  ((List.range ops.size).all fun i => (List.range i).all fun j => match dstOf ops i with | some d => dstOf ops j != some d | none => true) &&
  ((List.range ops.size).all fun i => match ops[i]? with
    | some o => (o.after.all fun e => !Region.binds .any e || decide (e.on < i)) && (decide (N ≤ i) || ((depsN ops N o).all fun j => o.after.any fun e => Region.binds .any e && e.on == j))
    | none => true)
/-- A step of the first part. -/
def StepN (P : Program) (ops : Array Oper) (N : Nat) (a0 : Act) (R : Nat → Value → World → Prop) (J : World → Prop) (T : World → World → Prop) (i : Nat) (o : Oper) : Prop :=
  ∀ (vs : Nat → Value) (w : World), J w → (∀ j ∈ depsN ops N o, R j (vs j) w) → ∀ K : Act → World → Prop,
    (∀ u w', R i u w' → J w' → T w w' → K ((putL ops vs (depsN ops N o) a0).put o.dst u) w') →
    if Region.wanted o (yielded ops (putL ops vs (depsN ops N o) a0).tmps) = true then o.wp P (putL ops vs (depsN ops N o) a0) w K NoQ else K ((putL ops vs (depsN ops N o) a0).put o.dst undef) w
/-- What an operation waits for. -/
def waits (ops : Array Oper) (i : Nat) : List Nat := match ops[i]? with
  | some o => (o.after.toList.filter fun e => Region.binds .any e).map (·.on)
  | none => []
/-- All that stands behind a list of operations. -/
def anc (ops : Array Oper) : Nat → List Nat → List Nat
  | 0, L => L
  | i + 1, L => if i ∈ L then anc ops i (waits ops i ++ L) else anc ops i L
def lateB (ops : Array Oper) (N : Nat) : Bool :=
  (decide (ops.size ≤ N) || (let L := anc ops N (waits ops N); (List.range N).all fun j => L.contains j)) &&
  (List.range ops.size).all fun i => decide (i ≤ N) || (waits ops i).any fun j => decide (N ≤ j)
def tailL (n N : Nat) : Array Bool := Array.replicate N true ++ Array.replicate (n - N) false
theorem tail_getD (n N i : Nat) (h : i < n) : (tailL n N).getD i true = decide (i < N) := by
  unfold tailL
  rw [Array.getD_eq_getD_getElem?, Array.getElem?_append]
  by_cases q : i < N
  · simp [q]
  · have : i - N < n - N := by omega
    simp [q, this]
theorem anc_all (listed : Array Bool) (hcl : ∀ i, listed.getD i true = true → ∀ j ∈ waits ops i, listed.getD j true = true) : ∀ (i : Nat) (L : List Nat), (∀ j ∈ L, listed.getD j true = true) → ∀ j ∈ anc ops i L, listed.getD j true = true
  | 0, _, h => h
  | i + 1, L, h => by
    unfold anc
    split
    · rename_i hi
      exact anc_all listed hcl i _ fun j hj => (List.mem_append.1 hj).elim (hcl i (h i hi) j) (h j)
    · exact anc_all listed hcl i L h
theorem Pt.eq2 {a0 a b : Act} {vs : Nat → Value} {M M' : Nat → Prop} (ha : Pt ops a0 vs M a) (hb : Pt ops a0 vs M' b) (hm : ∀ i t, dstOf ops i = some t → (M i ↔ M' i)) : a = b := by
  obtain ⟨x, dx⟩ := a
  obtain ⟨y, dy⟩ := b
  have h1 : dx = dy := ha.defers.trans hb.defers.symm
  subst h1
  congr 1
  apply Array.ext_getElem?
  intro t
  by_cases h : ∃ i, M i ∧ dstOf ops i = some t
  · obtain ⟨i, hM, hi⟩ := h
    by_cases hlt : t < a0.tmps.size
    · exact (ha.got i t hM hi hlt).trans (hb.got i t ((hm i t hi).1 hM) hi hlt).symm
    · have s1 := ha.size; have s2 := hb.size
      simp only at s1 s2
      rw [Array.getElem?_eq_none (by omega), Array.getElem?_eq_none (by omega)]
  · exact (ha.rest t fun i hi e => h ⟨i, hi, e⟩).trans (hb.rest t fun i hi e => h ⟨i, (hm i t e).2 hi, e⟩).symm
section
variable {a0 : Act} {R : Nat → Value → World → Prop} {J : World → Prop} {T : World → World → Prop}
/-- **EACH OPERATION OF THE FIRST PART WALKED ONCE; the rest comes up behind all of them.** -/
theorem wpAny_tail (N : Nat) (hN : N ≤ ops.size) (hok : okRegN ops N = true) (hlate : lateB ops N = true) (hT : ∀ i u w w', R i u w → T w w' → R i u w') (hstep : ∀ i o, i < N → ops[i]? = some o → StepN P ops N a0 R J T i o)
    (htail : ∀ (fuel : Nat) (vs : Nat → Value) (w : World), ((List.range ops.size).filter fun i => !(tailL ops.size N).getD i true).length ≤ fuel → J w → (∀ i, i < N → R i (vs i) w) → wpAny P .any ops Q fuel (tailL ops.size N) (putL ops vs (List.range N) a0) w) :
    ∀ (fuel : Nat) (listed : Array Bool) (a : Act) (w : World) (vs : Nat → Value), listed.size = ops.size → ((List.range ops.size).filter fun i => !listed.getD i true).length ≤ fuel → (∀ i, N ≤ i → i < ops.size → listed.getD i true = false) →
      (∀ j o, ops[j]? = some o → listed.getD j true = true → ∀ e ∈ o.after, Region.binds .any e = true → listed.getD e.on true = true) → J w → Pt ops a0 vs (fun i => i < ops.size ∧ listed.getD i true = true) a →
      (∀ i, i < ops.size → listed.getD i true = true → R i (vs i) w) → wpAny P .any ops Q fuel listed a w := by
  simp only [okRegN, Bool.and_eq_true, List.all_eq_true, List.mem_range] at hok
  obtain ⟨⟨hsel, hdst⟩, hedge⟩ := hok
  have hd : ∀ i j t, i ≠ j → dstOf ops i = some t → dstOf ops j ≠ some t := by
    intro i j t hij hi hj
    have hlt : ∀ {k}, dstOf ops k = some t → k < ops.size := fun {k} h => by
      unfold dstOf at h
      rcases Nat.lt_or_ge k ops.size with q | q
      · exact q
      · rw [Array.getElem?_eq_none q] at h; cases h
    rcases Nat.lt_or_ge i j with q | q
    · have := hdst j (hlt hj) i q
      rw [hj] at this
      simp [hi] at this
    · have := hdst i (hlt hi) j (by omega)
      rw [hi] at this
      simp [hj] at this
  have least : ∀ (listed : Array Bool), listed.size = ops.size → Region.ready .any ops listed = [] → ∀ i, i < ops.size → listed.getD i true = true := by
    intro listed hls hr i
    induction i using Nat.strongRecOn with
    | _ i ih =>
      intro hi
      cases q : listed.getD i true with
      | true => rfl
      | false =>
        have : i ∈ Region.ready .any ops listed := by
          rw [mem_ready]
          refine ⟨q, ops[i], Array.getElem?_eq_getElem hi, fun e he hb => ?_⟩
          have h := hedge i hi
          rw [Array.getElem?_eq_getElem hi] at h
          simp only [Bool.and_eq_true, Array.all_eq_true_iff_forall_mem] at h
          have h1 := h.1 e he
          rw [hb] at h1
          have hlt : e.on < i := by simpa using h1
          have h2 := ih e.on hlt (by omega)
          simp only [Array.getD_eq_getD_getElem?] at h2 ⊢
          rw [Array.getElem?_eq_getElem (by omega)] at h2 ⊢
          exact h2
        rw [hr] at this; cases this
  have full : ∀ (fuel : Nat) (listed : Array Bool) (a : Act) (w : World) (vs : Nat → Value), listed.size = ops.size → ((List.range ops.size).filter fun i => !listed.getD i true).length ≤ fuel → (∀ i, N ≤ i → i < ops.size → listed.getD i true = false) → J w →
      Pt ops a0 vs (fun i => i < ops.size ∧ listed.getD i true = true) a → (∀ i, i < ops.size → listed.getD i true = true → R i (vs i) w) → (∀ j, j < N → listed.getD j true = true) → wpAny P .any ops Q fuel listed a w := by
    intro fuel listed a w vs hls hf hno hJ hPt hR hall
    have hl : listed = tailL ops.size N := by
      apply Array.ext_getElem?
      intro i
      by_cases hi : i < ops.size
      · have h1 := tail_getD ops.size N i hi
        have h2 : listed.getD i true = decide (i < N) := by
          by_cases q : i < N
          · rw [hall i q, decide_eq_true q]
          · rw [hno i (by omega) hi, decide_eq_false q]
        rw [← h1] at h2
        have hs : (tailL ops.size N).size = ops.size := by unfold tailL; simp; omega
        simp only [Array.getD_eq_getD_getElem?] at h2
        rw [Array.getElem?_eq_getElem (by omega), Array.getElem?_eq_getElem (by omega)] at h2 ⊢
        simpa using h2
      · have hs : (tailL ops.size N).size = ops.size := by unfold tailL; simp; omega
        rw [Array.getElem?_eq_none (by omega), Array.getElem?_eq_none (by omega)]
    have hp := Pt.putL hd (List.range N) (Pt.nil (ops := ops) a0 vs) List.nodup_range (fun _ _ h => h)
    rw [hPt.eq2 hp fun i t ht => ?_]
    · subst hl
      exact htail fuel vs w hf hJ fun i hi => hR i (by omega) (hall i hi)
    · constructor
      · rintro ⟨h1, h2⟩
        refine .inr (List.mem_range.2 ?_)
        rcases Nat.lt_or_ge i N with q | q
        · exact q
        · rw [hno i q h1] at h2; cases h2
      · rintro (h | h)
        · exact h.elim
        · have := List.mem_range.1 h
          exact ⟨by omega, hall i this⟩
  simp only [lateB, Bool.and_eq_true, Bool.or_eq_true, decide_eq_true_eq, List.all_eq_true, List.mem_range] at hlate
  obtain ⟨hl1, hl2⟩ := hlate
  have wait : ∀ {i : Nat} {o : Oper} {j : Nat}, ops[i]? = some o → j ∈ waits ops i → ∃ e ∈ o.after, Region.binds .any e = true ∧ e.on = j := by
    intro i o j ho hj
    unfold waits at hj
    rw [ho] at hj
    obtain ⟨e, he, rfl⟩ := List.mem_map.1 hj
    obtain ⟨h1, h2⟩ := List.mem_filter.1 he
    exact ⟨e, Array.mem_toList_iff.1 h1, h2, rfl⟩
  intro fuel
  induction fuel with
  | zero =>
    intro listed a w vs hls hf hno hcl hJ hPt hR
    refine full 0 listed a w vs hls hf hno hJ hPt hR fun i hi => ?_
    cases q : listed.getD i true with
    | true => rfl
    | false =>
      have : i ∈ (List.range ops.size).filter fun i => !listed.getD i true := List.mem_filter.2 ⟨List.mem_range.2 (by omega), by rw [q]; rfl⟩
      have := List.length_pos_of_mem this
      omega
  | succ fuel ih =>
    intro listed a w vs hls hf hno hcl hJ hPt hR
    by_cases hall : ∀ j, j < N → listed.getD j true = true
    · exact full _ listed a w vs hls hf hno hJ hPt hR hall
    refine ⟨fun hr => absurd (fun j hj => least listed hls hr j (by omega)) hall, fun i hi => ?_⟩
    obtain ⟨hun, o, ho, hready⟩ := mem_ready.1 hi
    have hiN : i < N := by
      rcases Nat.lt_or_ge i N with q | q
      · exact q
      · exfalso
        have hi' : i < ops.size := (Array.getElem?_eq_some_iff.1 ho).1
        have hgd : ∀ j, j < ops.size → listed.getD j false = true → listed.getD j true = true := fun j hj h => by
          simp only [Array.getD_eq_getD_getElem?] at h ⊢
          rw [Array.getElem?_eq_getElem (by omega)] at h ⊢
          exact h
        have hlo : ∀ j ∈ waits ops i, j < ops.size ∧ listed.getD j true = true := fun j hj => by
          obtain ⟨e, he, hb, rfl⟩ := wait ho hj
          have h := hedge i hi'
          rw [ho] at h
          simp only [Bool.and_eq_true, Array.all_eq_true_iff_forall_mem] at h
          have h1 := h.1 e he
          rw [hb] at h1
          have hlt : e.on < i := by simpa using h1
          exact ⟨by omega, hgd _ (by omega) (hready e he hb)⟩
        rcases Nat.eq_or_lt_of_le q with q | q
        · subst q
          refine hall fun j hj => ?_
          rcases hl1 with h | h
          · omega
          · have := h j hj
            refine anc_all listed (fun k hk m hm => ?_) N (waits ops N) (fun m hm => (hlo m hm).2) j (by simpa using this)
            cases hok2 : ops[k]? with
            | none => unfold waits at hm; rw [hok2] at hm; cases hm
            | some ok =>
              obtain ⟨e, he, hb, rfl⟩ := wait hok2 hm
              exact hcl k ok hok2 hk e he hb
        · have h := hl2 i hi'
          rcases h with h | h
          · omega
          · obtain ⟨j, hj, hjN⟩ := List.any_eq_true.1 h
            have h3 := hlo j hj
            have h4 := hno j (of_decide_eq_true hjN) h3.1
            rw [h4] at h3; cases h3.2
    have hi' : i < ops.size := (Array.getElem?_eq_some_iff.1 ho).1
    have hdi : dstOf ops i = o.dst := by unfold dstOf; rw [ho]; rfl
    -- what it looks at has come up
    have hdep : ∀ j ∈ depsN ops N o, j < ops.size ∧ listed.getD j true = true := by
      intro j hj
      have hjn : j < N := List.mem_range.1 (List.mem_filter.1 hj).1
      have hjs : j < ops.size := by omega
      refine ⟨hjs, ?_⟩
      have h := hedge i hi'
      rw [ho] at h
      simp only [Bool.and_eq_true, Bool.or_eq_true, decide_eq_true_eq, List.all_eq_true] at h
      have h2 := (h.2.resolve_left (by omega)) j hj
      obtain ⟨e, he, h3⟩ := Array.any_eq_true'.1 h2
      simp only [Bool.and_eq_true, beq_iff_eq] at h3
      have h4 := hready e he h3.1
      rw [h3.2] at h4
      simp only [Array.getD_eq_getD_getElem?] at h4 ⊢
      rw [Array.getElem?_eq_getElem (by omega)] at h4 ⊢
      exact h4
    have hb := Pt.putL hd (depsN ops N o) (Pt.nil (ops := ops) a0 vs) (List.nodup_range.sublist List.filter_sublist) (fun _ _ h => h)
    obtain ⟨b, hbe⟩ : ∃ b, putL ops vs (depsN ops N o) a0 = b := ⟨_, rfl⟩
    have hst := hstep i o hiN ho vs w hJ (fun j hj => hR j (hdep j hj).1 (hdep j hj).2) (fun a' w' => ∃ u, a' = b.put o.dst u ∧ (R i u w' ∧ J w' ∧ T w w'))
      (fun u w' h1 h2 h3 => ⟨u, by rw [hbe], h1, h2, h3⟩)
    rw [hbe] at hb hst
    have hsz : a.tmps.size = b.tmps.size := hPt.size.trans hb.size.symm
    have hag : ∀ t ∈ o.looksAt ops, a.tmps[t]? = b.tmps[t]? := by
      intro t ht
      by_cases h : ∃ j, dstOf ops j = some t
      · obtain ⟨j, hj⟩ := h
        have hjs : j < ops.size := by
          unfold dstOf at hj
          rcases Nat.lt_or_ge j ops.size with q | q
          · exact q
          · rw [Array.getElem?_eq_none q] at hj; cases hj
        rcases Nat.lt_or_ge j N with hjn | hjn
        rotate_left
        · have hne : ∀ m, m < N → dstOf ops m ≠ some t := fun m hm e => hd j m t (by omega) hj e
          exact (hPt.rest t fun m hm => hne m (by
            rcases Nat.lt_or_ge m N with q | q
            · exact q
            · rw [hno m q hm.1] at hm; cases hm.2)).trans (hb.rest t fun m hm => hm.elim (fun f => f.elim) fun hm => hne m (List.mem_range.1 (List.mem_filter.1 hm).1)).symm
        have hjd : j ∈ depsN ops N o := List.mem_filter.2 ⟨List.mem_range.2 hjn, by rw [hj]; simpa using ht⟩
        by_cases hlt : t < a0.tmps.size
        · exact (hPt.got j t (hdep j hjd) hj hlt).trans (hb.got j t (.inr hjd) hj hlt).symm
        · have s1 := hPt.size; have s2 := hb.size
          rw [Array.getElem?_eq_none (by rw [s1]; exact Nat.not_lt.1 hlt), Array.getElem?_eq_none (by rw [s2]; exact Nat.not_lt.1 hlt)]
      · have hn : ∀ j, dstOf ops j ≠ some t := fun j e => h ⟨j, e⟩
        exact (hPt.rest t fun j _ => hn j).trans (hb.rest t fun j _ => hn j).symm
    have hwant : Region.wanted o (yielded ops a.tmps) = Region.wanted o (yielded ops b.tmps) := by
      unfold Region.wanted
      cases hg : o.guard with
      | none => rfl
      | some gw =>
        obtain ⟨g, want⟩ := gw
        have hy : yielded ops a.tmps g = yielded ops b.tmps g := by
          unfold yielded
          cases hq : (ops[g]?).bind (·.dst) with
          | none => rfl
          | some t =>
            have : a.tmps[t]? = b.tmps[t]? := hag t (List.mem_append_right _ (by rw [hg]; simp only; rw [hq]; simp))
            simp only [Option.bind_some, this]
        simp only [hy]
    -- behind it
    have next : ∀ u w', R i u w' ∧ J w' ∧ T w w' → wpAny P .any ops Q fuel (listed.setIfInBounds i true) (a.put o.dst u) w' := by
      rintro u w' ⟨h1, h2, h3⟩
      have hMi : ¬ (i < ops.size ∧ listed.getD i true = true) := fun h => by rw [hun] at h; cases h.2
      have hp := hPt.put hMi (fun j t hj hi2 => hd i j t (fun e => hMi (by rw [e]; exact hj)) hi2) u
      rw [hdi] at hp
      have hgi : (listed.setIfInBounds i true).getD i true = true := by
        simp only [Array.getD_eq_getD_getElem?]
        rw [Array.getElem?_setIfInBounds_self_of_lt (by omega)]; rfl
      have hgo : ∀ k, k ≠ i → (listed.setIfInBounds i true).getD k true = listed.getD k true := fun k hk => getD_set_ne true (Ne.symm hk)
      refine ih _ _ _ (fun k => if k = i then u else vs k) (by simpa using hls) ?_ (fun k h1 h2 => by rw [hgo k (by omega)]; exact hno k h1 h2) (fun k ok hk1 hk2 e he hb => ?_) h2 ⟨hp.defers, hp.size, fun k t hk => hp.got k t ?_, fun t ht => hp.rest t fun k hk => ht k ?_⟩ ?_
      · have hsub : ((List.range ops.size).filter fun k => !(listed.setIfInBounds i true).getD k true) = (((List.range ops.size).filter fun k => !listed.getD k true).filter fun k => k != i) := by
          rw [List.filter_filter]
          refine List.filter_congr fun k _ => ?_
          by_cases hk : k = i
          · subst hk; rw [hgi]; simp
          · rw [hgo k hk]; simp [hk]
        rw [hsub]
        have hin : i ∈ (List.range ops.size).filter fun k => !listed.getD k true := List.mem_filter.2 ⟨List.mem_range.2 hi', by rw [hun]; rfl⟩
        have : (((List.range ops.size).filter fun k => !listed.getD k true).filter fun k => k != i).length < ((List.range ops.size).filter fun k => !listed.getD k true).length :=
          List.length_filter_lt_length_iff_exists.2 ⟨i, hin, by simp⟩
        omega
      · have hlo : listed.getD e.on true = true := by
          by_cases q : k = i
          · subst q
            rw [ho] at hk1
            obtain rfl := Option.some.inj hk1
            have h4 := hready e he hb
            have hlt : e.on < ops.size := by
              have h := hedge k hi'
              rw [ho] at h
              simp only [Bool.and_eq_true, Array.all_eq_true_iff_forall_mem] at h
              have h1 := h.1 e he
              rw [hb] at h1
              have : e.on < k := by simpa using h1
              omega
            simp only [Array.getD_eq_getD_getElem?] at h4 ⊢
            rw [Array.getElem?_eq_getElem (by omega)] at h4 ⊢
            exact h4
          · rw [hgo k q] at hk2
            exact hcl k ok hk1 hk2 e he hb
        by_cases q : e.on = i
        · rw [q]; exact hgi
        · rw [hgo _ q]; exact hlo
      · by_cases e : k = i
        · exact .inr e
        · rw [hgo k e] at hk; exact .inl hk
      · rcases hk with hk | hk
        · by_cases e : k = i
          · subst e; exact ⟨hi', hgi⟩
          · rw [hgo k e]; exact hk
        · subst hk; exact ⟨hi', hgi⟩
      · intro k hk hkl
        by_cases e : k = i
        · subst e; simpa using h1
        · simp only [if_neg e]
          rw [hgo k e] at hkl
          exact hT _ _ _ _ (hR k hk hkl) h3
    unfold wpOp
    simp only [ho]
    rw [hwant]
    split
    · rename_i hw
      rw [if_pos hw] at hst
      exact .inl (wp_local (Region.noSelect_spec hsel i o · · ho) hsz hag next hst)
    · rename_i hw
      rw [if_neg hw] at hst
      obtain ⟨u, e, hu⟩ := hst
      rw [put_eq hsz e]
      exact next u w hu
/-- A region whose last two operations come up behind all others. -/
theorem wp_region_tail {id : Nat} {w : World} (N : Nat) (hN : N ≤ ops.size) (hm : P.follows .mixedOrders = true) (hok : okRegN ops N = true) (hlate : lateB ops N = true) (hT : ∀ i u w w', R i u w → T w w' → R i u w') (hJ : J w.drew)
    (hstep : ∀ i o, i < N → ops[i]? = some o → StepN P ops N a0 R J T i o)
    (htail : ∀ (fuel : Nat) (vs : Nat → Value) (w : World), ((List.range ops.size).filter fun i => !(tailL ops.size N).getD i true).length ≤ fuel → J w → (∀ i, i < N → R i (vs i) w) → wpAny P .any ops Q fuel (tailL ops.size N) (putL ops vs (List.range N) a0) w) :
    (Code.region id ops true).wp P Q a0 w := by
  have hn : ∀ i, i < ops.size → (Array.replicate ops.size false).getD i true = false := by
    intro i h1
    simp [h1]
  refine wp_region_any hm (wpAny_tail N hN hok hlate hT hstep htail ops.size _ a0 w.drew (fun _ => undef) (by simp) ?_ (fun i _ h => hn i h) (fun j o hj h => ?_) hJ ?_ ?_)
  · exact Nat.le_trans (List.length_filter_le _ _) (by simp)
  · rw [hn j (Array.getElem?_eq_some_iff.1 hj).1] at h; cases h
  · exact ⟨rfl, rfl, fun i t h => (by have h2 := h.2; rw [hn i h.1] at h2; cases h2), fun _ _ => rfl⟩
  · intro i h1 h2
    rw [hn i h1] at h2; cases h2
/-- Two operations are left, and come up in order. -/
theorem wpAny_two {N fuel : Nat} {L : Array Bool} {a : Act} {w : World} (hf : 2 ≤ fuel) (h1 : Region.ready .any ops L = [N]) (h2 : Region.ready .any ops (L.setIfInBounds N true) = [N + 1]) (h3 : Region.ready .any ops ((L.setIfInBounds N true).setIfInBounds (N + 1) true) = [])
    (h : wpOp P ops Q N (wpOp P ops Q (N + 1) (Q .normal)) a w) : wpAny P .any ops Q fuel L a w := by
  obtain ⟨f, rfl⟩ : ∃ f, fuel = f + 2 := ⟨fuel - 2, by omega⟩
  refine ⟨fun e => (by rw [h1] at e; cases e), fun i hi => ?_⟩
  rw [h1, List.mem_singleton] at hi
  subst hi
  refine wpOp_mono (fun a' w' hh => ?_) h
  refine ⟨fun e => (by rw [h2] at e; cases e), fun i hi => ?_⟩
  rw [h2, List.mem_singleton] at hi
  subst hi
  refine wpOp_mono (fun a'' w'' hq => ?_) hh
  cases f with
  | zero => exact ⟨h3, hq⟩
  | succ f => exact ⟨fun _ => hq, fun i hi => by rw [h3] at hi; cases hi⟩
end
end Go.Once
/- REGIONS THAT DRAW THEIR ORDER: steps. -/
namespace Go.Once
open Go
variable {P : Program} {ops : Array Oper} {Q : Exit → Act → World → Prop} {a0 : Act} {R : Nat → Value → World → Prop} {J : World → Prop} {T : World → World → Prop}

/-- A region of a function's body. -/
def regOf : Code → Nat → Option (Array Oper)
  | .region id ops _, n => if id = n then some ops else none
  | .seq a b, n => (regOf a n).or (regOf b n)
  | .cond _ a b, n => (regOf a n).or (regOf b n)
  | .block _ a, n => regOf a n
  | .loop a, n => regOf a n
  | .scope a, n => regOf a n
  | .rangeFunc _ _ a b, n => (regOf a n).or (regOf b n)
  | _, _ => none
theorem atO {i : Nat} {o : Oper} {α : Type} {f : Oper → α} {x : α} (ho : ops[i]? = some o) (h : (ops[i]?).map f = some x) : f o = x := by rw [ho] at h; exact Option.some.inj h
/-- A frame in which the operations that o looks at have come up. -/
structure Sees (ops : Array Oper) (N : Nat) (a0 : Act) (n : Nat) (o : Oper) (vs : Nat → Value) (b : Act) : Prop where
  got : ∀ j t, (depsN ops N o).contains j = true → dstOf ops j = some t → t < n → b.tmps[t]?.getD undef = vs j
  rest : ∀ t, ((depsN ops N o).all fun j => dstOf ops j != some t) = true → b.tmps[t]?.getD undef = a0.tmps[t]?.getD undef
  yld : ∀ g t, (depsN ops N o).contains g = true → dstOf ops g = some t → t < n → yielded ops b.tmps g = match vs g with | .bool x => some x | _ => none
def dstB (ops : Array Oper) : Bool := (List.range ops.size).all fun i => (List.range i).all fun j => match dstOf ops i with | some d => dstOf ops j != some d | none => true
theorem depM {N : Nat} {o : Oper} {j : Nat} (h : (depsN ops N o).contains j = true) : j ∈ depsN ops N o := by simpa using h
theorem dst_ne (h : dstB ops = true) : ∀ i j t, i ≠ j → dstOf ops i = some t → dstOf ops j ≠ some t := by
  simp only [dstB, List.all_eq_true, List.mem_range] at h
  intro i j t hij hi hj
  have hlt : ∀ {k}, dstOf ops k = some t → k < ops.size := fun {k} h => by
    unfold dstOf at h
    rcases Nat.lt_or_ge k ops.size with q | q
    · exact q
    · rw [Array.getElem?_eq_none q] at h; cases h
  rcases Nat.lt_or_ge i j with q | q
  · have := h j (hlt hj) i q
    rw [hj] at this
    simp [hi] at this
  · have := h i (hlt hi) j (by omega)
    rw [hi] at this
    simp [hj] at this
theorem sees {n N : Nat} (hsz : a0.tmps.size = n) (h : dstB ops = true) (o : Oper) (vs : Nat → Value) : Sees ops N a0 n o vs (putL ops vs (depsN ops N o) a0) := by
  have hd := dst_ne h
  have hb := Pt.putL hd (depsN ops N o) (Pt.nil (ops := ops) a0 vs) (List.nodup_range.sublist List.filter_sublist) (fun _ _ h => h)
  refine ⟨fun j t hj ht hlt => ?_, fun t ht => ?_, fun g t hg ht hlt => ?_⟩
  · have := hb.got j t (.inr (by simpa using hj)) ht (by rw [hsz]; exact hlt)
    rw [this]; rfl
  · have := hb.rest t fun j hj => hj.elim (fun f => f.elim) fun hj e => by
      have := List.all_eq_true.1 ht j hj
      rw [e] at this; simp at this
    rw [this]
  · have := hb.got g t (.inr (by simpa using hg)) ht (by rw [hsz]; exact hlt)
    unfold yielded
    have ht' : (ops[g]?).bind (·.dst) = some t := ht
    rw [ht', Option.bind_some, this]
    cases vs g <;> rfl
/-- An operation that is wanted, and makes a value. -/
theorem Step.val {i n N : Nat} {o : Oper} (hsz : a0.tmps.size = n) (hd : dstB ops = true)
    (h : ∀ vs w b, J w → (∀ j ∈ depsN ops N o, R j (vs j) w) → Sees ops N a0 n o vs b → Region.wanted o (yielded ops b.tmps) = true ∧ ∃ u w', (execOp b.eval o).run P w = .ok (.value u) w' ∧ R i u w' ∧ J w' ∧ T w w') : StepN P ops N a0 R J T i o := by
  intro vs w hJ hD K hK
  obtain ⟨h1, u, w', hr, h2, h3, h4⟩ := h vs w _ hJ hD (sees hsz hd o vs)
  rw [if_pos h1]
  unfold Oper.wp
  rw [hr]
  exact hK u w' h2 h3 h4
/-- A call. -/
theorem Step.call {i n N : Nat} {o : Oper} (hsz : a0.tmps.size = n) (hd : dstB ops = true)
    (h : ∀ vs w b, J w → (∀ j ∈ depsN ops N o, R j (vs j) w) → Sees ops N a0 n o vs b → Region.wanted o (yielded ops b.tmps) = true ∧ ∃ f args, (execOp b.eval o).run P w = .ok (.enter f args) w ∧ Calls P f args w fun e w' => ∃ u, e = .returned u ∧ R i u w' ∧ J w' ∧ T w w') : StepN P ops N a0 R J T i o := by
  intro vs w hJ hD K hK
  obtain ⟨h1, f, args, hr, hc⟩ := h vs w _ hJ hD (sees hsz hd o vs)
  rw [if_pos h1]
  unfold Oper.wp
  rw [hr]
  refine hc.mono ?_
  rintro e w' ⟨u, rfl, h2, h3, h4⟩
  exact hK u w' h2 h3 h4
/-- An operation that is not wanted. -/
theorem Step.off {i n N : Nat} {o : Oper} (hsz : a0.tmps.size = n) (hd : dstB ops = true) (hT : ∀ w, T w w)
    (h : ∀ vs w b, J w → (∀ j ∈ depsN ops N o, R j (vs j) w) → Sees ops N a0 n o vs b → Region.wanted o (yielded ops b.tmps) = false ∧ R i undef w) : StepN P ops N a0 R J T i o := by
  intro vs w hJ hD K hK
  obtain ⟨h1, h2⟩ := h vs w _ hJ hD (sees hsz hd o vs)
  rw [if_neg (by rw [h1]; simp)]
  exact hK undef w h2 hJ (hT w)
/-- Three operations are left, and come up in order. -/
theorem wpAny_three {N fuel : Nat} {L : Array Bool} {a : Act} {w : World} (hf : 3 ≤ fuel) (h1 : Region.ready .any ops L = [N]) (h2 : Region.ready .any ops (L.setIfInBounds N true) = [N + 1]) (h3 : Region.ready .any ops ((L.setIfInBounds N true).setIfInBounds (N + 1) true) = [N + 2])
    (h4 : Region.ready .any ops (((L.setIfInBounds N true).setIfInBounds (N + 1) true).setIfInBounds (N + 2) true) = [])
    (h : wpOp P ops Q N (wpOp P ops Q (N + 1) (wpOp P ops Q (N + 2) (Q .normal))) a w) : wpAny P .any ops Q fuel L a w := by
  obtain ⟨f, rfl⟩ : ∃ f, fuel = f + 1 := ⟨fuel - 1, by omega⟩
  refine ⟨fun e => (by rw [h1] at e; cases e), fun i hi => ?_⟩
  rw [h1, List.mem_singleton] at hi
  subst hi
  exact wpOp_mono (fun a' w' hh => wpAny_two (by omega) h2 h3 h4 hh) h
def opsOf (fn : Func) (n : Nat) : Array Oper := (regOf (fn.body.getD .skip) n).getD #[]
theorem wp_ops {ops' : Array Oper} {id : Nat} {a : Act} {w : World} (h : ops' = ops) (hh : (Code.region id ops' true).wp P Q a w) : (Code.region id ops true).wp P Q a w := h ▸ hh
theorem wpOp_val {i : Nat} {o : Oper} {a : Act} {w w' : World} {u : Value} {K : Act → World → Prop} (ho : ops[i]? = some o) (h1 : Region.wanted o (yielded ops a.tmps) = true) (hr : (execOp a.eval o).run P w = .ok (.value u) w') (hK : K (a.put o.dst u) w') : wpOp P ops Q i K a w := by
  unfold wpOp
  simp only [ho]
  rw [if_pos h1]
  refine .inl ?_
  unfold Oper.wp
  rw [hr]
  exact hK
theorem wpOp_valM {i : Nat} {op : Op} {ty : TypeId} {d : Tmp} {a : Act} {w w' : World} {u : Value} {K : Act → World → Prop} (h1 : (ops[i]?).map (·.op) = some op) (h2 : (ops[i]?).map (·.guard) = some none) (h3 : (ops[i]?).map (·.dst) = some (some d)) (h4 : (ops[i]?).map (·.type) = some ty)
    (hr : ∀ o : Oper, o.op = op → o.type = ty → (execOp a.eval o).run P w = .ok (.value u) w') (hK : K (a.put (some d) u) w') : wpOp P ops Q i K a w := by
  cases ho : ops[i]? with
  | none => rw [ho] at h1; cases h1
  | some o =>
    rw [ho] at h1 h2 h3 h4
    have e1 : o.op = op := Option.some.inj h1
    have e2 : o.guard = none := Option.some.inj h2
    have e3 : o.dst = some d := Option.some.inj h3
    have e4 : o.type = ty := Option.some.inj h4
    refine wpOp_val ho (by simp [Region.wanted, e2]) (hr o e1 e4) ?_
    rw [e3]
    exact hK
theorem wpOp_call {i f : Nat} {args : Array Value} {o : Oper} {a : Act} {w : World} {K : Act → World → Prop} (ho : ops[i]? = some o) (h1 : Region.wanted o (yielded ops a.tmps) = true) (hr : (execOp a.eval o).run P w = .ok (.enter f args) w)
    (hc : Calls P f args w fun e w' => ∃ u, e = .returned u ∧ K (a.put o.dst u) w') : wpOp P ops Q i K a w := by
  unfold wpOp
  simp only [ho]
  rw [if_pos h1]
  refine .inl ?_
  unfold Oper.wp
  rw [hr]
  refine hc.mono ?_
  rintro e w' ⟨u, rfl, h2⟩
  exact h2
theorem wpOp_off {i : Nat} {o : Oper} {a : Act} {w : World} {K : Act → World → Prop} (ho : ops[i]? = some o) (h1 : Region.wanted o (yielded ops a.tmps) = false) (hK : K (a.put o.dst undef) w) : wpOp P ops Q i K a w := by
  unfold wpOp
  simp only [ho]
  rw [if_neg (by rw [h1]; simp)]
  exact hK
end Go.Once
/- REGIONS THAT DRAW THEIR ORDER, each operation walked once: outside and inside a fence. -/
namespace Go.Once
open Go
variable {P : Program} {ops : Array Oper} {Q : Exit → Act → World → Prop} {a0 : Act} {R : Nat → Value → World → Prop} {J : World → Prop} {T : World → World → Prop}

theorem tail_all : Region.ready .any ops (tailL ops.size ops.size) = [] := by
  apply List.eq_nil_iff_forall_not_mem.2
  intro i hi
  obtain ⟨h1, o, ho, -⟩ := mem_ready.1 hi
  have hlt := (Array.getElem?_eq_some_iff.1 ho).1
  rw [tail_getD _ _ _ hlt, decide_eq_true hlt] at h1
  cases h1
theorem wpAny_nil {fuel : Nat} {L : Array Bool} {a : Act} {w : World} (h1 : Region.ready .any ops L = []) (h : Q .normal a w) : wpAny P .any ops Q fuel L a w := by
  cases fuel with
  | zero => exact ⟨h1, h⟩
  | succ f => exact ⟨fun _ => h, fun i hi => by rw [h1] at hi; cases hi⟩
theorem wpAny_whole (w : World) (hok : okRegN ops ops.size = true) (hlate : lateB ops ops.size = true) (hT : ∀ i u w w', R i u w → T w w' → R i u w') (hJ : J w)
    (hstep : ∀ i o, i < ops.size → ops[i]? = some o → StepN P ops ops.size a0 R J T i o)
    (hfin : ∀ vs w, J w → (∀ i, i < ops.size → R i (vs i) w) → Q .normal (putL ops vs (List.range ops.size) a0) w) : wpAny P .any ops Q ops.size (Array.replicate ops.size false) a0 w := by
  have hn : ∀ i, i < ops.size → (Array.replicate ops.size false).getD i true = false := by
    intro i h1
    simp [h1]
  refine wpAny_tail ops.size (Nat.le_refl _) hok hlate hT hstep (fun fuel vs w _ hJ hR => wpAny_nil tail_all (hfin vs w hJ hR)) ops.size _ a0 w (fun _ => undef) (by simp) ?_ (fun i _ h => hn i h) (fun j o hj h => ?_) hJ ?_ ?_
  · exact Nat.le_trans (List.length_filter_le _ _) (by simp)
  · rw [hn j (Array.getElem?_eq_some_iff.1 hj).1] at h; cases h
  · exact ⟨rfl, rfl, fun i t h => (by have h2 := h.2; rw [hn i h.1] at h2; cases h2), fun _ _ => rfl⟩
  · intro i h1 h2
    rw [hn i h1] at h2; cases h2
/-- The whole region, outside a fence. -/
theorem wp_region_whole {id : Nat} {w : World} (hm : P.follows .mixedOrders = true) (hok : okRegN ops ops.size = true) (hlate : lateB ops ops.size = true) (hT : ∀ i u w w', R i u w → T w w' → R i u w') (hJ : J w.drew)
    (hstep : ∀ i o, i < ops.size → ops[i]? = some o → StepN P ops ops.size a0 R J T i o)
    (hfin : ∀ vs w, J w → (∀ i, i < ops.size → R i (vs i) w) → Q .normal (putL ops vs (List.range ops.size) a0) w) : (Code.region id ops true).wp P Q a0 w :=
  wp_region_any hm (wpAny_whole w.drew hok hlate hT hJ hstep hfin)
/-- Operations that only move, read, build and store. -/
def plainK : Op → Bool
  | .move _ | .assign _ | .build _ _ | .load _ _ | .store _ _ _ | .fieldAddr _ _ _ | .indexAddr _ _ _ => true
  | _ => false
def plainB (ops : Array Oper) : Bool := ops.all fun o => plainK o.op
theorem plain_run {o : Oper} (h : plainK o.op = true) (ρ : Operand → Value) (w : World) : ∀ r w', (execOp ρ o).run P w = .ok r w' → (∃ v, r = .value v) ∨ r = .skip := by
  intro r w' hr
  have kv : ∀ s : Sem Value, (do pure (Next.value (← s)) : Sem Next).run P w = .ok r w' → ∃ v, r = .value v := fun s hs => by
    rw [Sem.run_bind] at hs
    cases q : s.run P w with
    | ok v w2 => rw [q] at hs; simp [Result.andThen] at hs; exact ⟨v, hs.1.symm⟩
    | halt x w2 => rw [q] at hs; simp [Result.andThen] at hs
  have ku : ∀ s : Sem Unit, (do s; pure Next.skip : Sem Next).run P w = .ok r w' → r = .skip := fun s hs => by
    rw [Sem.run_bind] at hs
    cases q : s.run P w with
    | ok v w2 => rw [q] at hs; simp [Result.andThen] at hs; exact hs.1.symm
    | halt x w2 => rw [q] at hs; simp [Result.andThen] at hs
  unfold execOp at hr
  generalize o.op = op at h hr
  cases op <;> simp only [plainK] at h <;> try (cases h; done)
  case move x => simp at hr; exact .inl ⟨_, hr.1.symm⟩
  case assign x => simp at hr; exact .inl ⟨_, hr.1.symm⟩
  case build t p => exact .inl (kv _ hr)
  case load t p => exact .inl (kv _ hr)
  case store t p x => exact .inr (ku _ hr)
  case fieldAddr t p x => exact .inl (kv _ hr)
  case indexAddr t p x => exact .inl (kv _ hr)
theorem plain_call {o : Oper} (h : plainK o.op = true) : (∀ c, o.op ≠ .call c) ∧ (∀ c, o.op ≠ .defer c) := by
  constructor
  · intro c e; rw [e] at h; simp [plainK] at h
  · intro c e; rw [e] at h; simp [plainK] at h
theorem wpAnyIn_plain {F : Fence} {n : Nat} (hp : plainB ops = true) : ∀ (fuel : Nat) (L : Array Bool) (a : Act) (w : World), wpAny P .any ops (fun e a w => e = .normal ∧ Q .normal a w) fuel L a w → wpAnyIn F n P .any ops Q fuel L a w := by
  intro fuel
  induction fuel with
  | zero => intro L a w h; exact ⟨h.1, h.2.2⟩
  | succ fuel ih =>
    intro L a w h
    refine ⟨fun hr => (h.1 hr).2, fun i hi => ?_⟩
    have hw := h.2 i hi
    obtain ⟨-, o, ho, -⟩ := mem_ready.1 hi
    unfold wpOp at hw
    unfold wpOpIn
    simp only [ho] at hw ⊢
    have hk : plainK o.op = true := by
      have := Array.all_eq_true_iff_forall_mem.1 hp o (Array.mem_of_getElem? ho)
      exact this
    obtain ⟨hc, hd⟩ := plain_call hk
    have hab : ∀ ρ, o.about P w ρ = none := fun ρ => by
      unfold Oper.about
      cases ho : o.op <;> first | rfl | exact absurd ho (hc _)
    split
    · rename_i hwant
      rw [if_pos hwant] at hw
      have hw2 := hw.resolve_right (fun q => by obtain ⟨-, _, _, e, -⟩ := q; cases e)
      unfold Oper.wp at hw2
      unfold Oper.wpIn
      refine ⟨fun f hf => (by rw [hab] at hf; cases hf), ?_⟩
      rw [Oper.semAt_eq _ _ _ hd]
      cases hr : (execOp a.eval o).run P w with
      | ok r w' =>
        rw [hr] at hw2
        rcases plain_run hk a.eval w r w' hr with ⟨v, rfl⟩ | rfl
        · exact ih _ _ _ hw2
        · exact ih _ _ _ hw2
      | halt x w' =>
        rw [hr] at hw2
        cases x <;> simp only [Oper.upon] at hw2
        case panic v => exact absurd hw2.1 (by simp)
        all_goals exact hw2.elim
    · rename_i hwant
      rw [if_neg hwant] at hw
      exact ⟨fun f hf => (by rw [hab] at hf; cases hf), ih _ _ _ hw⟩
/-- The whole region, inside a fence. -/
theorem wpIn_region_whole {F : Fence} {n id : Nat} {w : World} (hm : P.follows .mixedOrders = true) (hp : plainB ops = true) (hok : okRegN ops ops.size = true) (hlate : lateB ops ops.size = true) (hT : ∀ i u w w', R i u w → T w w' → R i u w') (hJ : J w.drew)
    (hstep : ∀ i o, i < ops.size → ops[i]? = some o → StepN P ops ops.size a0 R J T i o)
    (hfin : ∀ vs w, J w → (∀ i, i < ops.size → R i (vs i) w) → Q .normal (putL ops vs (List.range ops.size) a0) w) : (Code.region id ops true).wpIn F n P Q a0 w :=
  wpIn_region_any hm (wpAnyIn_plain hp _ _ _ _ (wpAny_whole w.drew hok hlate hT hJ hstep (fun vs w h1 h2 => ⟨rfl, hfin vs w h1 h2⟩)))
theorem wpIn_ops {ops' : Array Oper} {F : Fence} {n id : Nat} {a : Act} {w : World} (h : ops' = ops) (hh : (Code.region id ops' true).wpIn F n P Q a w) : (Code.region id ops true).wpIn F n P Q a w := h ▸ hh
/-- An operation that is wanted, and makes no value. -/
theorem Step.skip {i n N : Nat} {o : Oper} (hsz : a0.tmps.size = n) (hd : dstB ops = true)
    (h : ∀ vs w b, J w → (∀ j ∈ depsN ops N o, R j (vs j) w) → Sees ops N a0 n o vs b → Region.wanted o (yielded ops b.tmps) = true ∧ ∃ w', (execOp b.eval o).run P w = .ok .skip w' ∧ R i undef w' ∧ J w' ∧ T w w') : StepN P ops N a0 R J T i o := by
  intro vs w hJ hD K hK
  obtain ⟨h1, w', hr, h2, h3, h4⟩ := h vs w _ hJ hD (sees hsz hd o vs)
  rw [if_pos h1]
  unfold Oper.wp
  rw [hr]
  exact hK undef w' h2 h3 h4
end Go.Once
