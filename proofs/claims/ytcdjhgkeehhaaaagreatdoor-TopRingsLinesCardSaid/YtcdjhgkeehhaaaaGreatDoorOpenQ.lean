/- SLICES OF ROWS THAT CAME IN. -/
import Derived.Test.YtcdjhgkeehhaaaaGreatDoorOpen
import Derived.Test.YtcdjhgkeehhaaaaGreatDoorKB
import Derived.Deep.Slices
import Derived.Lib.SmallJoins
namespace Go.Proofs.Wk
open Go.RowKit Go.WideShapes Go.ChangeShapes Go.Deep

theorem open_rows {α : Type} [Row α] {H : Type} {enc : TypeId × Value → H} {P : Program} {t e : TypeId} (B : Nat) (ht : P.underlying t = some (.slice e)) (hc : P.cellsOf e = Row.k α) (hby : P.bytesOf e = B) {Q : α → DataW H → Prop}
    {W : World} {r : Reach} {base : Nat} {v : Value} {d : DataW H} {ps : List MemPlace} {ts : List TypeId} {ds : List (DataW H)} {j : Nat}
    (hel : ∀ n cs y, DataW.trod enc P W 0 (fun _ => true) true n e cs = some y → ∃ x : α, cs = Row.enc x ∧ Q x y.1)
    (hval : Value.okWide P W r base t v) (h : DataW.Trod enc P W 0 (fun _ => true) true t v d ps) (hlt : ∀ x ∈ ps, x.block < W.heap.size)
    (hsz : (DataW.weightsEach P ts ds).all (· ≤ reachBytes) = true) (hj : ts[j]? = some t) (hd : ds[j]? = some d) :
    ∃ ls : List α, SlX W v ls ∧ ls.length * B ≤ 140737488355328 ∧ ∀ x ∈ ls, ∃ D, Q x D ∧ ∀ k ∈ D.weights P e, k ≤ 140737488355328 := by
  obtain ⟨a0, len, cap, rfl⟩ := okWide_slice ht hval
  obtain ⟨fuel, hf⟩ := h
  rcases Go.Deep.open_slice ht hf with ⟨hcs, hx⟩ | ⟨a, len', cap', m, n, D, Pl, hcs, _, hl, hm, hmm, hx, hcell⟩
  · simp [Value.cells] at hcs
    obtain ⟨rfl, rfl, rfl⟩ := hcs
    exact ⟨[], .inl ⟨_, _, rfl, rfl⟩, by simp, by simp⟩
  · simp [Value.cells] at hcs
    obtain ⟨rfl, rfl, rfl⟩ := hcs
    simp only [Prod.mk.injEq] at hx
    obtain ⟨rfl, rfl⟩ := hx
    simp only [if_true] at hmm
    by_cases hl0 : len = 0
    · subst hl0
      exact ⟨[], .inl ⟨_, _, rfl, rfl⟩, by simp, by simp⟩
    · have hw := sized_slice hsz hj hd ht
      rw [hby] at hw
      simp only [List.length_map, List.length_range] at hw
      have hr := reach47
      have hk := Row.pos (α := α)
      have each : ∀ i, i < m → ∃ x : α, (∀ k, k < Row.k α → W.cell? (a.add (i * Row.k α + k)) = (Row.enc x)[k]?) ∧ Q x (D i) := by
        intro i hi
        obtain ⟨cs', h1, h2⟩ := hcell i hi
        obtain ⟨x, rfl, hq⟩ := hel _ _ _ h2
        rw [hc] at h1
        obtain ⟨_, _, h3⟩ := World.cells?_some h1
        refine ⟨x, fun k hk => ?_, hq⟩
        have := h3 k hk
        rw [Go.Deep.add_add] at this
        exact this
      obtain ⟨x0, hx0, -⟩ := each 0 (by omega)
      haveI : Inhabited α := ⟨x0⟩
      obtain ⟨b, off, spot⟩ := a
      have h00 := hx0 0 hk
      rw [List.getElem?_eq_getElem (by rw [Row.len]; exact hk)] at h00
      have hspot : spot = none := by simpa [Addr.add] using World.cell?_spot h00
      subst hspot
      obtain ⟨f, hf'⟩ := Go.Deep.choose_lt each
      have hbW : b < W.heap.size := hlt (.cell b off) (List.mem_append_left _ (MemPlace.mem_row.2 ⟨0, by rw [hc]; exact Nat.mul_pos (by omega) hk, by simp⟩))
      refine ⟨(List.range len).map f, .inr ⟨b, off, cap, by simp, fun i hi k hk => ?_, hbW⟩, ?_, fun x hx => ?_⟩
      · simp only [List.length_map, List.length_range] at hi
        have := (hf' i (by omega)).1 k hk
        rw [add_plain, ← Nat.add_assoc] at this
        rw [this]
        simp
      · simp only [List.length_map, List.length_range]
        have : len * B ≤ (len + (m - len)) * B := Nat.mul_le_mul_right B (Nat.le_add_right _ _)
        omega
      · obtain ⟨i, hi, rfl⟩ := List.mem_map.1 hx
        have hi' := List.mem_range.1 hi
        refine ⟨D i, (hf' i (by omega)).2, fun k hk => ?_⟩
        have h1 : k ∈ DataW.weightsEach P ts ds := by
          refine DataW.weights_mem_each hj hd _ ?_
          simp only [DataW.weights, ht]
          exact List.mem_cons_of_mem _ (List.mem_append_left _ (weightsAll_mem (d := D i) (List.mem_map.2 ⟨i, hi, rfl⟩) hk))
        exact Nat.le_trans (of_decide_eq_true (List.all_eq_true.1 hsz _ h1)) reach47
theorem list3 {β : Type} {l : List β} (h : l.length = 3) : ∃ a b c, l = [a, b, c] := by
  match l, h with
  | [a, b, c], _ => exact ⟨a, b, c, rfl⟩
end Go.Proofs.Wk
