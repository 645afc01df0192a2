/- A SLICE OF TEXTS THAT CAME IN. -/
import Derived.Test.YtcdjhgkeehhaaaaGreatDoorGL
import Derived.SliceStrings
import Derived.SizedLaws
import Derived.ProofKit
import Derived.ChangeMaps5
namespace Go.Proofs.Wk
open Go.RowKit Go.WideShapes Go.ChangeShapes

theorem reach47 : reachBytes ≤ 140737488355328 := by decide
theorem weightsAll_mem {H : Type} {P : Program} {e : TypeId} : ∀ {ds : List (DataW H)} {d : DataW H} {n : Nat}, d ∈ ds → n ∈ d.weights P e → n ∈ DataW.weightsAll P e ds
  | d0 :: ds, d, n, hd, hn => by
    simp only [DataW.weightsAll, List.mem_append]
    rcases List.mem_cons.1 hd with rfl | h
    · exact .inl hn
    · exact .inr (weightsAll_mem h hn)
theorem open_texts {H : Type} {enc : TypeId × Value → H} {P : Program} {t e : TypeId} (ht : P.underlying t = some (.slice e)) (he : P.underlying e = some .string) (hc : P.cellsOf e = 1) (hby : P.bytesOf e = 16)
    {W : World} {r : Reach} {base : Nat} {v : Value} {d : DataW H} {ps : List MemPlace} {ts : List TypeId} {ds : List (DataW H)} {j : Nat}
    (hval : Value.okWide P W r base t v) (h : DataW.Trod enc P W 0 (fun _ => true) true t v d ps) (hlt : ∀ x ∈ ps, x.block < W.heap.size)
    (hsz : (DataW.weightsEach P ts ds).all (· ≤ reachBytes) = true) (hj : ts[j]? = some t) (hd : ds[j]? = some d) :
    ∃ ls : List (List UInt8), SlS W v ls ∧ ls.length ≤ 140737488355328 ∧ ∀ l ∈ ls, l.length ≤ 140737488355328 := by
  obtain ⟨a0, len, cap, rfl⟩ := okWide_slice ht hval
  obtain ⟨fuel, hf⟩ := h
  rcases open_strings ht he hc hf with ⟨hcs, hx⟩ | ⟨a, len', cap', ss, hcs, _, hl, hm, hz, hx, hcell, hws⟩
  · simp [Value.cells] at hcs
    obtain ⟨rfl, rfl, rfl⟩ := hcs
    exact ⟨[], .inl ⟨_, _, rfl, rfl⟩, by simp, by simp⟩
  · simp [Value.cells] at hcs
    obtain ⟨rfl, rfl, rfl⟩ := hcs
    simp only [Prod.mk.injEq] at hx
    obtain ⟨rfl, rfl⟩ := hx
    simp only [if_true] at hz
    by_cases hl0 : len = 0
    · subst hl0
      exact ⟨[], .inl ⟨_, _, rfl, rfl⟩, by simp, by simp⟩
    · have hw := sized_slice hsz hj hd ht
      rw [hby] at hw
      simp only [strs, List.length_map, List.length_take, List.length_drop] at hw
      have hr := reach47
      obtain ⟨b, off, spot⟩ := a
      have hspot : spot = none := by simpa [Addr.add] using World.cell?_spot (hcell 0 (by omega))
      subst hspot
      have hbW : b < W.heap.size := hlt (.cell b off) (MemPlace.mem_row.2 ⟨0, by omega, by simp⟩)
      have hlen : ((ss.take len).map fun s => s.data.toList).length = len := by simp; omega
      refine ⟨(ss.take len).map fun s => s.data.toList, .inr ⟨b, off, cap, by rw [hlen], fun j hj => ?_, hbW⟩, by rw [hlen]; omega, fun l hl => ?_⟩
      · rw [hlen] at hj
        have := hcell j (by omega)
        rw [add_plain] at this
        rw [this]
        simp only [List.getElem_map, List.getElem_take]
        rw [List.getD, List.getElem?_eq_getElem (by omega)]
        rfl
      · obtain ⟨s, hs, rfl⟩ := List.mem_map.1 hl
        have h1 : s.data.toList.length ∈ DataW.weightsEach P ts ds := by
          refine DataW.weights_mem_each hj hd _ ?_
          simp only [DataW.weights, ht]
          refine List.mem_cons_of_mem _ (List.mem_append_left _ (weightsAll_mem (d := .lit (.string s.data.toList)) ?_ ?_))
          · exact List.mem_map.2 ⟨s, hs, rfl⟩
          · simp [DataW.weights]
        have := List.all_eq_true.1 hsz _ h1
        have := of_decide_eq_true this
        omega
end Go.Proofs.Wk
