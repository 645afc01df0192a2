/- AN ARRAY OF FIVE TEXTS THAT CAME IN. -/
import Derived.Test.YtachiilmgnognaaGreatDoorOpen
import Derived.ChangeReads
namespace Go.Proofs.Wk
open Go.RowKit Go.WideShapes Go.ChangeShapes

theorem trod_txt {H : Type} {enc : TypeId × Value → H} {P : Program} {W : World} {base : Nat} {sp : Nat → Bool} {held : Bool} {m : Nat} {e : TypeId} {x : Value} {y : DataW H × List MemPlace} (he : P.underlying e = some .string)
    (h : DataW.trod enc P W base sp held m e [x] = some y) : ∃ l : List UInt8, x = .string ⟨l.toArray⟩ ∧ y = (.lit (.string l), []) := by
  cases m with
  | zero => simp [DataW.trod] at h
  | succ m =>
    rw [DataW.trod_step] at h
    unfold DataW.trodStep at h
    simp only [he] at h
    cases x with
    | string s =>
      simp only at h
      split at h
      · refine ⟨s.data.toList, by cases s; rfl, (Option.some.inj h).symm⟩
      · cases h
    | _ => cases h
theorem weights_txt {H : Type} {P : Program} {e : TypeId} (l : List UInt8) : l.length ∈ (DataW.lit (H := H) (.string l)).weights P e := by
  simp [DataW.weights]
theorem open_arr5 {H : Type} {enc : TypeId × Value → H} {P : Program} {t e : TypeId} (ht : P.underlying t = some (.array 5 e)) (he : P.underlying e = some .string) (hc : P.cellsOf e = 1) (hc5 : P.cellsOf t = 5)
    {W : World} {r : Reach} {base : Nat} {v : Value} {d : DataW H} {ps : List MemPlace} {ts : List TypeId} {ds : List (DataW H)} {j : Nat}
    (hval : Value.okWide P W r base t v) (h : DataW.Trod enc P W 0 (fun _ => true) true t v d ps)
    (hsz : (DataW.weightsEach P ts ds).all (· ≤ reachBytes) = true) (hj : ts[j]? = some t) (hd : ds[j]? = some d) :
    ∃ a b c x y : List UInt8, v = .agg #[.string ⟨a.toArray⟩, .string ⟨b.toArray⟩, .string ⟨c.toArray⟩, .string ⟨x.toArray⟩, .string ⟨y.toArray⟩] ∧ ∀ l ∈ [a, b, c, x, y], l.length ≤ 140737488355328 := by
  simp only [Value.okWide, ht] at hval
  obtain ⟨cs, rfl, h2, -⟩ := hval
  rw [hc5] at h2
  obtain ⟨l⟩ := cs
  match l, h2 with
  | [v0, v1, v2, v3, v4], _ =>
    obtain ⟨fuel, hf⟩ := h
    cases fuel with
    | zero => simp [DataW.trod] at hf
    | succ m =>
      rw [DataW.trod_step] at hf
      unfold DataW.trodStep at hf
      simp only [ht, Value.cells] at hf
      rw [if_pos (by rw [hc5]; rfl), hc] at hf
      simp only [Option.map_eq_some_iff] at hf
      obtain ⟨xs, hm, hx⟩ := hf
      simp only [show List.range 5 = [0, 1, 2, 3, 4] from rfl, List.mapM_cons, List.mapM_nil, bind, Option.bind_eq_some_iff, pure, Option.some.injEq] at hm
      obtain ⟨y0, q0, r0, ⟨y1, q1, r1, ⟨y2, q2, r2, ⟨y3, q3, r3, ⟨y4, q4, r4, rfl, rfl⟩, rfl⟩, rfl⟩, rfl⟩, rfl⟩ := hm
      obtain ⟨l0, rfl, rfl⟩ := trod_txt he q0
      obtain ⟨l1, rfl, rfl⟩ := trod_txt he q1
      obtain ⟨l2, rfl, rfl⟩ := trod_txt he q2
      obtain ⟨l3, rfl, rfl⟩ := trod_txt he q3
      obtain ⟨l4, rfl, rfl⟩ := trod_txt he q4
      obtain ⟨rfl, -⟩ := Prod.mk.inj hx
      refine ⟨l0, l1, l2, l3, l4, rfl, fun l hl => ?_⟩
      have h1 : l.length ∈ DataW.weightsEach P ts ds := by
        refine DataW.weights_mem_each hj hd _ ?_
        simp only [DataW.weights, ht]
        refine weightsAll_mem (d := .lit (.string l)) ?_ (weights_txt l)
        simp only [List.map_cons, List.map_nil, List.mem_cons, List.not_mem_nil, or_false] at hl ⊢
        rcases hl with rfl | rfl | rfl | rfl | rfl <;> simp
      have h3 := of_decide_eq_true (List.all_eq_true.1 hsz _ h1)
      exact Nat.le_trans h3 reach47
end Go.Proofs.Wk
