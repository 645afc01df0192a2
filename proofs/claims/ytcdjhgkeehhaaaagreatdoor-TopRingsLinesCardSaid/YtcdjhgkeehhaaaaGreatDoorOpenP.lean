/- SLICES OF POINTS THAT CAME IN; one point; three points; a width with its proof. -/
import Derived.Test.YtcdjhgkeehhaaaaGreatDoorOpenQ
import Derived.Test.YtcdjhgkeehhaaaaGreatDoorND
namespace Go.Proofs.Wk
open Go.RowKit Go.WideShapes Go.ChangeShapes Go.Deep

theorem list2 {β : Type} {l : List β} (h : l.length = 2) : ∃ a b, l = [a, b] := by
  match l, h with
  | [a, b], _ => exact ⟨a, b, rfl⟩
section
variable {H : Type} {enc : TypeId × Value → H} {P : Program} {W : World} {base : Nat} {sp : Nat → Bool} {held : Bool}
theorem trod_pt {e : TypeId} {f0 f1 : Field} (he : P.underlying e = some (.struct #[f0, f1])) (hone : oneCellFields P #[f0, f1] = true) (hc : P.cellsOf e = 2)
    (u0 : P.underlying f0.type = some (.int .i64)) (u1 : P.underlying f1.type = some (.int .i64))
    {n : Nat} {cs : List Value} {y : DataW H × List MemPlace} (h : DataW.trod enc P W base sp held n e cs = some y) : ∃ x : St.Pt, cs = ptC x := by
  obtain ⟨xs, k, _, rfl, hl, hxl, hf⟩ := DataW.trod_struct he h
  obtain ⟨v0, v1, rfl⟩ := list2 (hl.trans hc)
  obtain ⟨y0, y1, rfl⟩ := list2 (l := xs) (by simpa using hxl)
  obtain ⟨o0, k0⟩ := hone_of hone 0 f0 rfl
  obtain ⟨o1, k1⟩ := hone_of hone 1 f1 rfl
  have g0 := hf 0 f0 rfl
  have g1 := hf 1 f1 rfl
  rw [o0, k0] at g0
  rw [o1, k1] at g1
  obtain ⟨n0, e0, -, -⟩ := DataW.trod_int u0 g0
  obtain ⟨n1, e1, -, -⟩ := DataW.trod_int u1 g1
  simp only [List.drop_zero, List.drop_succ_cons, List.take_succ_cons, List.take_zero, List.cons.injEq, and_true] at e0 e1
  subst e0 e1
  exact ⟨⟨n0, n1⟩, rfl⟩
end
/-- A slice of points. -/
theorem open_pts {H : Type} {enc : TypeId × Value → H} {P : Program} {t e : TypeId} {f0 f1 : Field} (ht : P.underlying t = some (.slice e)) (he : P.underlying e = some (.struct #[f0, f1]))
    (hone : oneCellFields P #[f0, f1] = true) (hc : P.cellsOf e = 2) (hby : P.bytesOf e = 16)
    (u0 : P.underlying f0.type = some (.int .i64)) (u1 : P.underlying f1.type = some (.int .i64))
    {W : World} {r : Reach} {base : Nat} {v : Value} {d : DataW H} {ps : List MemPlace} {ts : List TypeId} {ds : List (DataW H)} {j : Nat}
    (hval : Value.okWide P W r base t v) (h : DataW.Trod enc P W 0 (fun _ => true) true t v d ps) (hlt : ∀ x ∈ ps, x.block < W.heap.size)
    (hsz : (DataW.weightsEach P ts ds).all (· ≤ reachBytes) = true) (hj : ts[j]? = some t) (hd : ds[j]? = some d) :
    ∃ ls : List St.Pt, SlX W v ls ∧ ls.length ≤ 140737488355328 := by
  obtain ⟨ls, h1, h2, -⟩ := open_rows (α := St.Pt) 16 ht hc hby (Q := fun _ _ => True) (fun n cs y hy => by obtain ⟨x, hx⟩ := trod_pt he hone hc u0 u1 hy; exact ⟨x, hx, trivial⟩) hval h hlt hsz hj hd
  exact ⟨ls, h1, by omega⟩
/-- One point. -/
theorem open_pt {H : Type} {enc : TypeId × Value → H} {P : Program} {e : TypeId} {f0 f1 : Field} (he : P.underlying e = some (.struct #[f0, f1]))
    (hone : oneCellFields P #[f0, f1] = true) (hc : P.cellsOf e = 2) (u0 : P.underlying f0.type = some (.int .i64)) (u1 : P.underlying f1.type = some (.int .i64))
    {W : World} {r : Reach} {base : Nat} {v : Value} {d : DataW H} {ps : List MemPlace}
    (hval : Value.okWide P W r base e v) (h : DataW.Trod enc P W 0 (fun _ => true) true e v d ps) : ∃ x : St.Pt, v = ptV x := by
  obtain ⟨cs, rfl, -⟩ := okWide_struct he hval
  obtain ⟨fuel, hf⟩ := h
  obtain ⟨x, hx⟩ := trod_pt he hone hc u0 u1 hf
  refine ⟨x, ?_⟩
  obtain ⟨l⟩ := cs
  simp only [Value.cells] at hx
  have hl : l = ptC x := by simpa using hx
  rw [hl]
/-- Three points. -/
theorem open_tri {H : Type} {enc : TypeId × Value → H} {P : Program} {t e : TypeId} {f0 f1 : Field} (ht : P.underlying t = some (.array 3 e)) (he : P.underlying e = some (.struct #[f0, f1]))
    (hone : oneCellFields P #[f0, f1] = true) (hc : P.cellsOf e = 2) (hc6 : P.cellsOf t = 6) (u0 : P.underlying f0.type = some (.int .i64)) (u1 : P.underlying f1.type = some (.int .i64))
    {W : World} {r : Reach} {base : Nat} {v : Value} {d : DataW H} {ps : List MemPlace}
    (hval : Value.okWide P W r base t v) (h : DataW.Trod enc P W 0 (fun _ => true) true t v d ps) :
    ∃ a b c : St.Pt, v = .agg #[.int .i64 a.x, .int .i64 a.y, .int .i64 b.x, .int .i64 b.y, .int .i64 c.x, .int .i64 c.y] := by
  simp only [Value.okWide, ht] at hval
  obtain ⟨cs, rfl, h2, -⟩ := hval
  rw [hc6] at h2
  obtain ⟨l⟩ := cs
  match l, h2 with
  | [v0, v1, v2, v3, v4, v5], _ =>
    obtain ⟨fuel, hf⟩ := h
    cases fuel with
    | zero => simp [DataW.trod] at hf
    | succ m =>
      rw [DataW.trod_step] at hf
      unfold DataW.trodStep at hf
      simp only [ht, Value.cells] at hf
      rw [if_pos (by rw [hc6]; rfl), hc] at hf
      simp only [Option.map_eq_some_iff] at hf
      obtain ⟨xs, hm, hx⟩ := hf
      simp only [show List.range 3 = [0, 1, 2] from rfl, List.mapM_cons, List.mapM_nil, bind, Option.bind_eq_some_iff, pure, Option.some.injEq] at hm
      obtain ⟨y0, q0, r0, ⟨y1, q1, r1, ⟨y2, q2, r2, rfl, rfl⟩, rfl⟩, rfl⟩ := hm
      obtain ⟨a, ea⟩ := trod_pt he hone hc u0 u1 q0
      obtain ⟨b, eb⟩ := trod_pt he hone hc u0 u1 q1
      obtain ⟨c, ec⟩ := trod_pt he hone hc u0 u1 q2
      refine ⟨a, b, c, ?_⟩
      simp [ptC] at ea eb ec
      obtain ⟨rfl, rfl⟩ := ea
      obtain ⟨rfl, rfl⟩ := eb
      obtain ⟨rfl, rfl⟩ := ec
      rfl
/-- A text, two ints and an int. -/
theorem open_wpr {H : Type} {enc : TypeId × Value → H} {P : Program} {e i : TypeId} {f0 f1 f2 : Field} (he : P.underlying e = some (.struct #[f0, f1, f2])) (hc : P.cellsOf e = 4)
    (o0 : f0.offset = 0) (o1 : f1.offset = 1) (o2 : f2.offset = 3) (c0 : P.cellsOf f0.type = 1) (c1 : P.cellsOf f1.type = 2) (c2 : P.cellsOf f2.type = 1) (ci : P.cellsOf i = 1)
    (u0 : P.underlying f0.type = some .string) (u1 : P.underlying f1.type = some (.array 2 i)) (ui : P.underlying i = some (.int .i64)) (u2 : P.underlying f2.type = some (.int .i64))
    {W : World} {r : Reach} {base : Nat} {v : Value} {d : DataW H} {ps : List MemPlace} {ts : List TypeId} {ds : List (DataW H)} {j : Nat}
    (hval : Value.okWide P W r base e v) (h : DataW.Trod enc P W 0 (fun _ => true) true e v d ps)
    (hsz : (DataW.weightsEach P ts ds).all (· ≤ reachBytes) = true) (hj : ts[j]? = some e) (hd : ds[j]? = some d) :
    ∃ (s : List UInt8) (x y z : Int), v = .agg #[.string ⟨s.toArray⟩, .int .i64 x, .int .i64 y, .int .i64 z] ∧ s.length ≤ 140737488355328 := by
  obtain ⟨cs, rfl, -⟩ := okWide_struct he hval
  obtain ⟨fuel, hf⟩ := h
  obtain ⟨xs, k, _, hx, hl, hxl, hg⟩ := DataW.trod_struct he hf
  obtain ⟨rfl, -⟩ := Prod.mk.inj hx
  obtain ⟨l⟩ := cs
  have hl4 : l.length = 4 := by
    have := hl.trans hc
    simpa [Value.cells] using this
  match l, hl4 with
  | [v0, v1, v2, v3], _ =>
    obtain ⟨y0, y1, y2, rfl⟩ := list3 (l := xs) (by simpa using hxl)
    have g0 := hg 0 f0 rfl
    have g1 := hg 1 f1 rfl
    have g2 := hg 2 f2 rfl
    rw [o0, c0] at g0
    rw [o1, c1] at g1
    replace g1 : _ = some y1 := g1
    rw [o2, c2] at g2
    obtain ⟨s, e0, rfl, -⟩ := DataW.trod_string u0 g0
    obtain ⟨n2, e2, -, -⟩ := DataW.trod_int u2 g2
    have e1 : ∃ a b : Int, v1 = .int .i64 a ∧ v2 = .int .i64 b := by
      cases k with
      | zero => simp [DataW.trod] at g1
      | succ m =>
        rw [DataW.trod_step] at g1
        unfold DataW.trodStep at g1
        simp only [u1] at g1
        rw [if_pos (by rw [c1]; rfl), ci] at g1
        simp only [Option.map_eq_some_iff] at g1
        obtain ⟨xs, hm, -⟩ := g1
        simp only [show List.range 2 = [0, 1] from rfl, List.mapM_cons, List.mapM_nil, bind, Option.bind_eq_some_iff, pure, Option.some.injEq] at hm
        obtain ⟨y0, q0, r0, ⟨y1, q1, r1, rfl, rfl⟩, rfl⟩ := hm
        obtain ⟨a, ea, -, -⟩ := DataW.trod_int ui q0
        obtain ⟨b, eb, -, -⟩ := DataW.trod_int ui q1
        simp [Value.cells] at ea eb
        exact ⟨a, b, ea, eb⟩
    obtain ⟨a, b, rfl, rfl⟩ := e1
    simp [Value.cells] at e0 e2
    subst e0 e2
    refine ⟨s.data.toList, a, b, n2, by cases s; rfl, ?_⟩
    have hw : s.data.toList.length ∈ DataW.weights P e (DataW.agg (List.map (fun x => x.fst) [(DataW.lit (H := H) (.string s.data.toList), []), y1, y2])) := by
      simp [DataW.weights, he, DataW.weightsEach]
    have h1 := List.all_eq_true.1 hsz _ (DataW.weights_mem_each hj hd _ hw)
    exact Nat.le_trans (of_decide_eq_true h1) reach47
end Go.Proofs.Wk
