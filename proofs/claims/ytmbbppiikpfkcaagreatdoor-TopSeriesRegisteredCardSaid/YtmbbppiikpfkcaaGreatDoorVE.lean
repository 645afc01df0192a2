/- A SLICE OF TEXTS THAT CAME IN. -/
import Derived.Test.YtmbbppiikpfkcaaGreatDoorGL
import Derived.SliceStrings
import Derived.SizedLaws
import Derived.ProofKit
import Derived.ChangeMaps5
import Derived.Test.YtmbbppiikpfkcaaGreatDoorKC
import Derived.Deep.Slices
import Derived.Lib.SmallJoins
import Derived.Test.YtmbbppiikpfkcaaGreatDoorVC
namespace Go.Proofs.Wk
open Go.RowKit Go.WideShapes Go.ChangeShapes

theorem reach47 : reachBytes ≤ 140737488355328 := by decide
theorem weightsAll_mem {H : Type} {P : Program} {e : TypeId} : ∀ {ds : List (DataW H)} {d : DataW H} {n : Nat}, d ∈ ds → n ∈ d.weights P e → n ∈ DataW.weightsAll P e ds
  | d0 :: ds, d, n, hd, hn => by
    simp only [DataW.weightsAll, List.mem_append]
    rcases List.mem_cons.1 hd with rfl | h
    · exact .inl hn
    · exact .inr (weightsAll_mem h hn)
theorem open_texts {H : Type} {enc : TypeId × Value → H} {P : Program} {t e : TypeId} (ht : P.underlying t = some (.slice e)) (he : P.underlying e = some .string) (hc : P.cellsOf e = 1) (hby : P.bytesOf e = 16)
    {W : World} {r : Reach} {base : Nat} {v : Value} {d : DataW H} {ps : List MemPlace} {ts : List TypeId} {ds : List (DataW H)} {j : Nat}
    (hval : Value.okWide P W r base t v) (h : DataW.Trod enc P W 0 (fun _ => true) true t v d ps) (hlt : ∀ x ∈ ps, x.block < W.heap.size)
    (hsz : (DataW.weightsEach P ts ds).all (· ≤ reachBytes) = true) (hj : ts[j]? = some t) (hd : ds[j]? = some d) :
    ∃ ls : List (List UInt8), SlS W v ls ∧ ls.length ≤ 140737488355328 ∧ ∀ l ∈ ls, l.length ≤ 140737488355328 := by
  obtain ⟨a0, len, cap, rfl⟩ := okWide_slice ht hval
  obtain ⟨fuel, hf⟩ := h
  rcases open_strings ht he hc hf with ⟨hcs, hx⟩ | ⟨a, len', cap', ss, hcs, _, hl, hm, hz, hx, hcell, hws⟩
  · simp [Value.cells] at hcs
    obtain ⟨rfl, rfl, rfl⟩ := hcs
    exact ⟨[], .inl ⟨_, _, rfl, rfl⟩, by simp, by simp⟩
  · simp [Value.cells] at hcs
    obtain ⟨rfl, rfl, rfl⟩ := hcs
    simp only [Prod.mk.injEq] at hx
    obtain ⟨rfl, rfl⟩ := hx
    simp only [if_true] at hz
    by_cases hl0 : len = 0
    · subst hl0
      exact ⟨[], .inl ⟨_, _, rfl, rfl⟩, by simp, by simp⟩
    · have hw := sized_slice hsz hj hd ht
      rw [hby] at hw
      simp only [strs, List.length_map, List.length_take, List.length_drop] at hw
      have hr := reach47
      obtain ⟨b, off, spot⟩ := a
      have hspot : spot = none := by simpa [Addr.add] using World.cell?_spot (hcell 0 (by omega))
      subst hspot
      have hbW : b < W.heap.size := hlt (.cell b off) (MemPlace.mem_row.2 ⟨0, by omega, by simp⟩)
      have hlen : ((ss.take len).map fun s => s.data.toList).length = len := by simp; omega
      refine ⟨(ss.take len).map fun s => s.data.toList, .inr ⟨b, off, cap, by rw [hlen], fun j hj => ?_, hbW⟩, by rw [hlen]; omega, fun l hl => ?_⟩
      · rw [hlen] at hj
        have := hcell j (by omega)
        rw [add_plain] at this
        rw [this]
        simp only [List.getElem_map, List.getElem_take]
        rw [List.getD, List.getElem?_eq_getElem (by omega)]
        rfl
      · obtain ⟨s, hs, rfl⟩ := List.mem_map.1 hl
        have h1 : s.data.toList.length ∈ DataW.weightsEach P ts ds := by
          refine DataW.weights_mem_each hj hd _ ?_
          simp only [DataW.weights, ht]
          refine List.mem_cons_of_mem _ (List.mem_append_left _ (weightsAll_mem (d := .lit (.string s.data.toList)) ?_ ?_))
          · exact List.mem_map.2 ⟨s, hs, rfl⟩
          · simp [DataW.weights]
        have := List.all_eq_true.1 hsz _ h1
        have := of_decide_eq_true this
        omega
end Go.Proofs.Wk
/- SLICES OF LOTS AND OF ENTRIES THAT CAME IN; one entry. -/
namespace Go.Proofs.Wk
open Go.RowKit Go.WideShapes Go.ChangeShapes Go.Deep

theorem open_rows {α : Type} [Row α] {H : Type} {enc : TypeId × Value → H} {P : Program} {t e : TypeId} (B : Nat) (ht : P.underlying t = some (.slice e)) (hc : P.cellsOf e = Row.k α) (hby : P.bytesOf e = B) {Q : α → DataW H → Prop}
    {W : World} {r : Reach} {base : Nat} {v : Value} {d : DataW H} {ps : List MemPlace} {ts : List TypeId} {ds : List (DataW H)} {j : Nat}
    (hel : ∀ n cs y, DataW.trod enc P W 0 (fun _ => true) true n e cs = some y → ∃ x : α, cs = Row.enc x ∧ Q x y.1)
    (hval : Value.okWide P W r base t v) (h : DataW.Trod enc P W 0 (fun _ => true) true t v d ps) (hlt : ∀ x ∈ ps, x.block < W.heap.size)
    (hsz : (DataW.weightsEach P ts ds).all (· ≤ reachBytes) = true) (hj : ts[j]? = some t) (hd : ds[j]? = some d) :
    ∃ ls : List α, SlX W v ls ∧ ls.length * B ≤ 140737488355328 ∧ ∀ x ∈ ls, ∃ D, Q x D ∧ ∀ k ∈ D.weights P e, k ≤ 140737488355328 := by
  obtain ⟨a0, len, cap, rfl⟩ := okWide_slice ht hval
  obtain ⟨fuel, hf⟩ := h
  rcases Go.Deep.open_slice ht hf with ⟨hcs, hx⟩ | ⟨a, len', cap', m, n, D, Pl, hcs, _, hl, hm, hmm, hx, hcell⟩
  · simp [Value.cells] at hcs
    obtain ⟨rfl, rfl, rfl⟩ := hcs
    exact ⟨[], .inl ⟨_, _, rfl, rfl⟩, by simp, by simp⟩
  · simp [Value.cells] at hcs
    obtain ⟨rfl, rfl, rfl⟩ := hcs
    simp only [Prod.mk.injEq] at hx
    obtain ⟨rfl, rfl⟩ := hx
    simp only [if_true] at hmm
    by_cases hl0 : len = 0
    · subst hl0
      exact ⟨[], .inl ⟨_, _, rfl, rfl⟩, by simp, by simp⟩
    · have hw := sized_slice hsz hj hd ht
      rw [hby] at hw
      simp only [List.length_map, List.length_range] at hw
      have hr := reach47
      have hk := Row.pos (α := α)
      have each : ∀ i, i < m → ∃ x : α, (∀ k, k < Row.k α → W.cell? (a.add (i * Row.k α + k)) = (Row.enc x)[k]?) ∧ Q x (D i) := by
        intro i hi
        obtain ⟨cs', h1, h2⟩ := hcell i hi
        obtain ⟨x, rfl, hq⟩ := hel _ _ _ h2
        rw [hc] at h1
        obtain ⟨_, _, h3⟩ := World.cells?_some h1
        refine ⟨x, fun k hk => ?_, hq⟩
        have := h3 k hk
        rw [Go.Deep.add_add] at this
        exact this
      obtain ⟨x0, hx0, -⟩ := each 0 (by omega)
      haveI : Inhabited α := ⟨x0⟩
      obtain ⟨b, off, spot⟩ := a
      have h00 := hx0 0 hk
      rw [List.getElem?_eq_getElem (by rw [Row.len]; exact hk)] at h00
      have hspot : spot = none := by simpa [Addr.add] using World.cell?_spot h00
      subst hspot
      obtain ⟨f, hf'⟩ := Go.Deep.choose_lt each
      have hbW : b < W.heap.size := hlt (.cell b off) (List.mem_append_left _ (MemPlace.mem_row.2 ⟨0, by rw [hc]; exact Nat.mul_pos (by omega) hk, by simp⟩))
      refine ⟨(List.range len).map f, .inr ⟨b, off, cap, by simp, fun i hi k hk => ?_, hbW⟩, ?_, fun x hx => ?_⟩
      · simp only [List.length_map, List.length_range] at hi
        have := (hf' i (by omega)).1 k hk
        rw [add_plain, ← Nat.add_assoc] at this
        rw [this]
        simp
      · simp only [List.length_map, List.length_range]
        have : len * B ≤ (len + (m - len)) * B := Nat.mul_le_mul_right B (Nat.le_add_right _ _)
        omega
      · obtain ⟨i, hi, rfl⟩ := List.mem_map.1 hx
        have hi' := List.mem_range.1 hi
        refine ⟨D i, (hf' i (by omega)).2, fun k hk => ?_⟩
        have h1 : k ∈ DataW.weightsEach P ts ds := by
          refine DataW.weights_mem_each hj hd _ ?_
          simp only [DataW.weights, ht]
          exact List.mem_cons_of_mem _ (List.mem_append_left _ (weightsAll_mem (d := D i) (List.mem_map.2 ⟨i, hi, rfl⟩) hk))
        exact Nat.le_trans (of_decide_eq_true (List.all_eq_true.1 hsz _ h1)) reach47
theorem list7 {β : Type} {l : List β} (h : l.length = 7) : ∃ a b c d e f g, l = [a, b, c, d, e, f, g] := by
  match l, h with
  | [a, b, c, d, e, f, g], _ => exact ⟨a, b, c, d, e, f, g, rfl⟩
theorem list3 {β : Type} {l : List β} (h : l.length = 3) : ∃ a b c, l = [a, b, c] := by
  match l, h with
  | [a, b, c], _ => exact ⟨a, b, c, rfl⟩
section
variable {H : Type} {enc : TypeId × Value → H} {P : Program} {W : World} {base : Nat} {sp : Nat → Bool} {held : Bool}
theorem trod_lot {e : TypeId} {f0 f1 f2 f3 f4 f5 f6 : Field} (he : P.underlying e = some (.struct #[f0, f1, f2, f3, f4, f5, f6])) (hone : oneCellFields P #[f0, f1, f2, f3, f4, f5, f6] = true) (hc : P.cellsOf e = 7)
    (u0 : P.underlying f0.type = some .string) (u1 : P.underlying f1.type = some (.int .i64)) (u2 : P.underlying f2.type = some (.int .i64)) (u3 : P.underlying f3.type = some (.int .i64))
    (u4 : P.underlying f4.type = some (.int .i64)) (u5 : P.underlying f5.type = some (.int .i64)) (u6 : P.underlying f6.type = some (.int .i64))
    {n : Nat} {cs : List Value} {y : DataW H × List MemPlace} (h : DataW.trod enc P W base sp held n e cs = some y) : ∃ x : Rg.Lt, cs = lotC x ∧ x.nm.length ∈ y.1.weights P e := by
  obtain ⟨xs, k, _, rfl, hl, hxl, hf⟩ := DataW.trod_struct he h
  obtain ⟨v0, v1, v2, v3, v4, v5, v6, rfl⟩ := list7 (hl.trans hc)
  obtain ⟨y0, y1, y2, y3, y4, y5, y6, rfl⟩ := list7 (l := xs) (by simpa using hxl)
  obtain ⟨o0, k0⟩ := hone_of hone 0 f0 rfl
  obtain ⟨o1, k1⟩ := hone_of hone 1 f1 rfl
  obtain ⟨o2, k2⟩ := hone_of hone 2 f2 rfl
  obtain ⟨o3, k3⟩ := hone_of hone 3 f3 rfl
  obtain ⟨o4, k4⟩ := hone_of hone 4 f4 rfl
  obtain ⟨o5, k5⟩ := hone_of hone 5 f5 rfl
  obtain ⟨o6, k6⟩ := hone_of hone 6 f6 rfl
  have g0 := hf 0 f0 rfl
  have g1 := hf 1 f1 rfl
  have g2 := hf 2 f2 rfl
  have g3 := hf 3 f3 rfl
  have g4 := hf 4 f4 rfl
  have g5 := hf 5 f5 rfl
  have g6 := hf 6 f6 rfl
  rw [o0, k0] at g0
  rw [o1, k1] at g1
  rw [o2, k2] at g2
  rw [o3, k3] at g3
  rw [o4, k4] at g4
  rw [o5, k5] at g5
  rw [o6, k6] at g6
  obtain ⟨s, e0, rfl, -⟩ := DataW.trod_string u0 g0
  obtain ⟨n1, e1, -, -⟩ := DataW.trod_int u1 g1
  obtain ⟨n2, e2, -, -⟩ := DataW.trod_int u2 g2
  obtain ⟨n3, e3, -, -⟩ := DataW.trod_int u3 g3
  obtain ⟨n4, e4, -, -⟩ := DataW.trod_int u4 g4
  obtain ⟨n5, e5, -, -⟩ := DataW.trod_int u5 g5
  obtain ⟨n6, e6, -, -⟩ := DataW.trod_int u6 g6
  simp only [List.drop_zero, List.drop_succ_cons, List.take_succ_cons, List.take_zero, List.cons.injEq, and_true] at e0 e1 e2 e3 e4 e5 e6
  subst e0 e1 e2 e3 e4 e5 e6
  refine ⟨⟨s.data.toList, n1, n2, n3, n4, n5, n6⟩, by cases s; rfl, ?_⟩
  simp [DataW.weights, he, DataW.weightsEach]
theorem trod_ent {e : TypeId} {f0 f1 f2 : Field} (he : P.underlying e = some (.struct #[f0, f1, f2])) (hone : oneCellFields P #[f0, f1, f2] = true) (hc : P.cellsOf e = 3)
    (u0 : P.underlying f0.type = some (.int .i64)) (u1 : P.underlying f1.type = some .string) (u2 : P.underlying f2.type = some (.int .i64))
    {n : Nat} {cs : List Value} {y : DataW H × List MemPlace} (h : DataW.trod enc P W base sp held n e cs = some y) : ∃ x : Rg.En, cs = entC x ∧ x.lot.length ∈ y.1.weights P e := by
  obtain ⟨xs, k, _, rfl, hl, hxl, hf⟩ := DataW.trod_struct he h
  obtain ⟨v0, v1, v2, rfl⟩ := list3 (hl.trans hc)
  obtain ⟨y0, y1, y2, rfl⟩ := list3 (l := xs) (by simpa using hxl)
  obtain ⟨o0, k0⟩ := hone_of hone 0 f0 rfl
  obtain ⟨o1, k1⟩ := hone_of hone 1 f1 rfl
  obtain ⟨o2, k2⟩ := hone_of hone 2 f2 rfl
  have g0 := hf 0 f0 rfl
  have g1 := hf 1 f1 rfl
  have g2 := hf 2 f2 rfl
  rw [o0, k0] at g0
  rw [o1, k1] at g1
  rw [o2, k2] at g2
  obtain ⟨n0, e0, -, -⟩ := DataW.trod_int u0 g0
  obtain ⟨s, e1, rfl, -⟩ := DataW.trod_string u1 g1
  obtain ⟨n2, e2, -, -⟩ := DataW.trod_int u2 g2
  simp only [List.drop_zero, List.drop_succ_cons, List.take_succ_cons, List.take_zero, List.cons.injEq, and_true] at e0 e1 e2
  subst e0 e1 e2
  refine ⟨⟨n0, s.data.toList, n2⟩, by cases s; rfl, ?_⟩
  simp [DataW.weights, he, DataW.weightsEach]
end
/-- A slice of lots. -/
theorem open_lots {H : Type} {enc : TypeId × Value → H} {P : Program} {t e : TypeId} {f0 f1 f2 f3 f4 f5 f6 : Field} (ht : P.underlying t = some (.slice e)) (he : P.underlying e = some (.struct #[f0, f1, f2, f3, f4, f5, f6]))
    (hone : oneCellFields P #[f0, f1, f2, f3, f4, f5, f6] = true) (hc : P.cellsOf e = 7) (hby : P.bytesOf e = 64)
    (u0 : P.underlying f0.type = some .string) (u1 : P.underlying f1.type = some (.int .i64)) (u2 : P.underlying f2.type = some (.int .i64)) (u3 : P.underlying f3.type = some (.int .i64))
    (u4 : P.underlying f4.type = some (.int .i64)) (u5 : P.underlying f5.type = some (.int .i64)) (u6 : P.underlying f6.type = some (.int .i64))
    {W : World} {r : Reach} {base : Nat} {v : Value} {d : DataW H} {ps : List MemPlace} {ts : List TypeId} {ds : List (DataW H)} {j : Nat}
    (hval : Value.okWide P W r base t v) (h : DataW.Trod enc P W 0 (fun _ => true) true t v d ps) (hlt : ∀ x ∈ ps, x.block < W.heap.size)
    (hsz : (DataW.weightsEach P ts ds).all (· ≤ reachBytes) = true) (hj : ts[j]? = some t) (hd : ds[j]? = some d) :
    ∃ ls : List Rg.Lt, SlX W v ls ∧ ls.length * 64 ≤ 140737488355328 ∧ ∀ x ∈ ls, x.nm.length ≤ 140737488355328 := by
  obtain ⟨ls, h1, h2, h3⟩ := open_rows (α := Rg.Lt) 64 ht hc hby (Q := fun x D => x.nm.length ∈ D.weights P e) (fun n cs y hy => trod_lot he hone hc u0 u1 u2 u3 u4 u5 u6 hy) hval h hlt hsz hj hd
  exact ⟨ls, h1, h2, fun x hx => by obtain ⟨D, q, hD⟩ := h3 x hx; exact hD _ q⟩
/-- A slice of entries. -/
theorem open_ents {H : Type} {enc : TypeId × Value → H} {P : Program} {t e : TypeId} {f0 f1 f2 : Field} (ht : P.underlying t = some (.slice e)) (he : P.underlying e = some (.struct #[f0, f1, f2]))
    (hone : oneCellFields P #[f0, f1, f2] = true) (hc : P.cellsOf e = 3) (hby : P.bytesOf e = 32)
    (u0 : P.underlying f0.type = some (.int .i64)) (u1 : P.underlying f1.type = some .string) (u2 : P.underlying f2.type = some (.int .i64))
    {W : World} {r : Reach} {base : Nat} {v : Value} {d : DataW H} {ps : List MemPlace} {ts : List TypeId} {ds : List (DataW H)} {j : Nat}
    (hval : Value.okWide P W r base t v) (h : DataW.Trod enc P W 0 (fun _ => true) true t v d ps) (hlt : ∀ x ∈ ps, x.block < W.heap.size)
    (hsz : (DataW.weightsEach P ts ds).all (· ≤ reachBytes) = true) (hj : ts[j]? = some t) (hd : ds[j]? = some d) :
    ∃ ls : List Rg.En, SlX W v ls ∧ ls.length * 32 ≤ 140737488355328 ∧ ∀ x ∈ ls, x.lot.length ≤ 140737488355328 := by
  obtain ⟨ls, h1, h2, h3⟩ := open_rows (α := Rg.En) 32 ht hc hby (Q := fun x D => x.lot.length ∈ D.weights P e) (fun n cs y hy => trod_ent he hone hc u0 u1 u2 hy) hval h hlt hsz hj hd
  exact ⟨ls, h1, h2, fun x hx => by obtain ⟨D, q, hD⟩ := h3 x hx; exact hD _ q⟩
/-- One entry. -/
theorem open_ent {H : Type} {enc : TypeId × Value → H} {P : Program} {e : TypeId} {f0 f1 f2 : Field} (he : P.underlying e = some (.struct #[f0, f1, f2]))
    (hone : oneCellFields P #[f0, f1, f2] = true) (hc : P.cellsOf e = 3)
    (u0 : P.underlying f0.type = some (.int .i64)) (u1 : P.underlying f1.type = some .string) (u2 : P.underlying f2.type = some (.int .i64))
    {W : World} {r : Reach} {base : Nat} {v : Value} {d : DataW H} {ps : List MemPlace} {ts : List TypeId} {ds : List (DataW H)} {j : Nat}
    (hval : Value.okWide P W r base e v) (h : DataW.Trod enc P W 0 (fun _ => true) true e v d ps)
    (hsz : (DataW.weightsEach P ts ds).all (· ≤ reachBytes) = true) (hj : ts[j]? = some e) (hd : ds[j]? = some d) :
    ∃ x : Rg.En, v = entV x ∧ x.lot.length ≤ 140737488355328 := by
  obtain ⟨cs, rfl, -⟩ := okWide_struct he hval
  obtain ⟨fuel, hf⟩ := h
  obtain ⟨x, hx, hw⟩ := trod_ent he hone hc u0 u1 u2 hf
  refine ⟨x, ?_, ?_⟩
  · obtain ⟨l⟩ := cs
    simp only [Value.cells] at hx
    have hl : l = entC x := by simpa using hx
    rw [hl]
  · have h1 := List.all_eq_true.1 hsz _ (DataW.weights_mem_each hj hd _ hw)
    exact Nat.le_trans (of_decide_eq_true h1) reach47
end Go.Proofs.Wk
/- FROM A READING DOWN: a series of ints; limits. -/
namespace Go.Proofs.Wk
open Go.RowKit Go.WideShapes Go.ChangeShapes Go.Deep

theorem lst2 {β : Type} {l : List β} (h : l.length = 2) : ∃ a b, l = [a, b] := by
  match l, h with
  | [a, b], _ => exact ⟨a, b, rfl⟩
theorem open_series {H : Type} {enc : TypeId × Value → H} {P : Program} {t e : TypeId} (ht : P.underlying t = some (.slice e)) (he : P.underlying e = some (.int .i64)) (hc : P.cellsOf e = 1) (hby : P.bytesOf e = 8)
    {W : World} {r : Reach} {base : Nat} {v : Value} {d : DataW H} {ps : List MemPlace} {ts : List TypeId} {ds : List (DataW H)} {j : Nat}
    (hval : Value.okWide P W r base t v) (h : DataW.Trod enc P W 0 (fun _ => true) true t v d ps) (hlt : ∀ x ∈ ps, x.block < W.heap.size)
    (hsz : (DataW.weightsEach P ts ds).all (· ≤ reachBytes) = true) (hj : ts[j]? = some t) (hd : ds[j]? = some d) :
    ∃ ls : List Int, SlX W v ls := by
  obtain ⟨ls, h1, -, -⟩ := open_rows (α := Int) 8 ht hc hby (Q := fun _ _ => True) (fun n cs y hy => by
    obtain ⟨n0, e0, -, -⟩ := DataW.trod_int he hy
    exact ⟨n0, e0, trivial⟩) hval h hlt hsz hj hd
  exact ⟨ls, h1⟩
theorem open_lim {H : Type} {enc : TypeId × Value → H} {P : Program} {e : TypeId} {f0 f1 : Field} (he : P.underlying e = some (.struct #[f0, f1]))
    (hone : oneCellFields P #[f0, f1] = true) (hc : P.cellsOf e = 2) (u0 : P.underlying f0.type = some (.int .i64)) (u1 : P.underlying f1.type = some (.int .i64))
    {W : World} {r : Reach} {base : Nat} {v : Value} {d : DataW H} {ps : List MemPlace}
    (hval : Value.okWide P W r base e v) (h : DataW.Trod enc P W 0 (fun _ => true) true e v d ps) : ∃ lo hi : Int, v = .agg #[.int .i64 lo, .int .i64 hi] := by
  obtain ⟨cs, rfl, -⟩ := okWide_struct he hval
  obtain ⟨fuel, hf⟩ := h
  obtain ⟨xs, k, _, _, hl, hxl, hf⟩ := DataW.trod_struct he hf
  obtain ⟨l⟩ := cs
  simp only [Value.cells] at hl hf
  obtain ⟨v0, v1, rfl⟩ := lst2 (hl.trans hc)
  obtain ⟨y0, y1, rfl⟩ := lst2 (l := xs) (by simpa using hxl)
  obtain ⟨o0, k0⟩ := hone_of hone 0 f0 rfl
  obtain ⟨o1, k1⟩ := hone_of hone 1 f1 rfl
  have g0 := hf 0 f0 rfl
  have g1 := hf 1 f1 rfl
  rw [o0, k0] at g0
  rw [o1, k1] at g1
  obtain ⟨n0, e0, -, -⟩ := DataW.trod_int u0 g0
  obtain ⟨n1, e1, -, -⟩ := DataW.trod_int u1 g1
  simp only [List.drop_zero, List.drop_succ_cons, List.take_succ_cons, List.take_zero, List.cons.injEq, and_true] at e0 e1
  subst e0 e1
  exact ⟨n0, n1, rfl⟩
end Go.Proofs.Wk
