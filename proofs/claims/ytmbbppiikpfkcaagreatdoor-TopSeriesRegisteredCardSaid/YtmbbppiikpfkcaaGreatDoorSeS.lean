/- slices.SortFunc OF WEIGHTED VALUES. -/
import Derived.Test.YtmbbppiikpfkcaaGreatDoorVB
import Derived.Test.YtmbbppiikpfkcaaGreatDoorShSort
import Derived.Shelf.SlSortCmp.WholeK
namespace Go.Proofs.Wk
open Go.RowKit Mt
open Go.Sort (HoldsK flatK size_flatK get_flatK)

/-- A value that is not great, with its weight. -/
abbrev Wb := {x : Rg.Wd // -1048576 ≤ x.v ∧ x.v ≤ 1048576}
instance : Inhabited Wb := ⟨⟨⟨0, 0⟩, by decide⟩⟩
def encB (x : Wb) : List Value := wdC x.1
def cfB (x y : Wb) : Int := x.1.v - y.1.v
theorem ltB (x y : Wb) : ltOf cfB x y = decide (x.1.v < y.1.v) := by
  unfold ltOf cfB
  by_cases h : x.1.v < y.1.v
  · rw [decide_eq_true h, decide_eq_true (by omega)]
  · rw [decide_eq_false h, decide_eq_false (by omega)]
theorem swoB : Go.Sort.SWO (ltOf cfB) where
  irrefl x := by rw [ltB]; simp
  trans x y z h1 h2 := by rw [ltB] at *; simp at *; omega
  ntrans x y z h1 h2 := by rw [ltB] at *; simp at *; omega
set_option maxRecDepth 100000 in
theorem cmpW_c (x y : Wb) (W : World) : Calls Tryz.prog 42 #[.agg (encB x).toArray, .agg (encB y).toArray] W fun e w' => e = .returned (.int .i64 (cfB x y)) ∧ ∃ q os', w' = Go.Sort.grow (W.drewN q) os' := by
  obtain ⟨⟨xv, xw⟩, hx⟩ := x
  obtain ⟨⟨yv, yw⟩, hy⟩ := y
  simp only at hx hy
  have hz : wrap64 (xv - yv) = xv - yv := by unfold wrap64; omega
  show Calls Tryz.prog 42 #[.agg #[.int .i64 xv, .string ⟨(Lib.itoa xw).toArray⟩], .agg #[.int .i64 yv, .string ⟨(Lib.itoa yw).toArray⟩]] W fun e w' => e = .returned (.int .i64 (xv - yv)) ∧ ∃ q os', w' = Go.Sort.grow (W.drewN q) os'
  generalize Lib.itoa xw = a
  generalize Lib.itoa yw = b
  clear hx hy
  go_enter Tryz.func42, Tryz.ntmps42
  go_wp2
  go_ret
  exact ⟨by first | rfl | (rw [hz]; rfl), 0, _, by rw [Go.Sort.alloc_eq_grow, Go.Sort.alloc_eq_grow, Go.Sort.grow_grow]; rfl⟩
theorem encB_at {x : Wb} {c : Nat} (hc : c < 2) : (Row.enc x.1)[c]? = some (encB x)[c]! := by
  match c, hc with
  | 0, _ => rfl
  | 1, _ => rfl
theorem holdsB {w : World} {g : Nat} {cur : Array Value} {T : TypeId} {l : List Wb} (hg : w.heap[g]? = some (.cells cur T (0, 0))) (hR : RX w g 0 (l.map Subtype.val)) : HoldsK encB 2 w g 0 l.toArray := by
  intro j hj
  rw [size_flatK] at hj
  have hj' : j < l.length * 2 := by simpa using hj
  refine ⟨?_, by simp [World.frozen?, hg]⟩
  have hi : j / 2 < l.length := by omega
  have h := hR (j / 2) (by rw [List.length_map]; exact hi) (j % 2) (Nat.mod_lt _ (by decide))
  have e1 : 0 + j / 2 * Row.k Rg.Wd + j % 2 = 0 + j := by show 0 + j / 2 * 2 + j % 2 = 0 + j; omega
  rw [e1, List.getElem_map, encB_at (Nat.mod_lt _ (by decide))] at h
  rw [h, get_flatK _ _ _ _ hj, getElem!_pos l.toArray (j / 2) (by simpa using hi)]
  rfl
theorem below_sorted {α : Type} [Inhabited α] (enc : α → List Value) (k : Nat) (w : World) (g off n : Nat) (d : Array α) (os : Array Obj) {base : Nat} (hb : base ≤ g) (hg : g < w.heap.size) : Below base w (sortWorldK enc k w g off n d os) := by
  refine ⟨rfl, rfl, rfl, ?_, fun i hi => ?_⟩
  · show w.heap.size ≤ (w.heap.modify g _ ++ os).size
    rw [Array.size_append, Array.size_modify]
    omega
  · show (w.heap.modify g _ ++ os)[i]? = w.heap[i]?
    rw [Array.getElem?_append_left (by rw [Array.size_modify]; omega), Array.getElem?_modify, if_neg (by omega)]
set_option maxRecDepth 100000 in
theorem sortW_c {g cap : Nat} {w : World} {base : Nat} (ds : List Rg.Wd) (hO : OwX 55 w base (.slice (some ⟨g, 0, none⟩) ds.length cap) ds) (hb : ∀ a ∈ ds, -1048576 ≤ a.v ∧ a.v ≤ 1048576) (hl : ds.length ≤ 1000) :
    Calls Tryz.prog 41 #[.slice (some ⟨g, 0, none⟩) ds.length cap, .func (.func 42) #[] #[]] w fun e w' =>
      e = .returned (.tuple #[]) ∧ ∃ ds', SlX w' (.slice (some ⟨g, 0, none⟩) ds.length cap) ds' ∧ ds'.Perm ds ∧ (ds'.Pairwise fun a b => a.v ≤ b.v) ∧ Below base w w' := by
  obtain ⟨l, hl'⟩ : ∃ l : List Wb, l.map Subtype.val = ds := ⟨ds.pmap Subtype.mk hb, by simp [List.map_pmap]⟩
  subst hl'
  obtain ⟨hlen, h2⟩ := hO
  rcases h2 with ⟨h, _⟩ | ⟨g', cap', cur, e1, hbg, hg, hn, hc, hs, ht⟩
  · cases h
  simp only [Value.slice.injEq, Option.some.injEq, Addr.mk.injEq, true_and, and_true] at e1
  obtain ⟨rfl, rfl⟩ := e1
  have hgl := (Array.getElem?_eq_some_iff.1 hg).1
  have hR : RX w g 0 (l.map Subtype.val) := RX.of_row hg ht
  have hH := holdsB hg hR
  have eg : ∀ args w, (callFunc 42 args).run Tryz.prog w = .ok (.enter 42 args) w := enters_of Tryz.func42 (by kernel_rfl) rfl
  have hsz : l.toArray.size = l.length := by simp
  have hll : l.length ≤ 1000 := by simpa using hl
  have hcon := AnyQ.slices_SortFunc Tryz.sortW 2 Tryz.isAgg55 Tryz.sizeOf55 encB (fun _ => rfl) (fun x v hv => Row.one x.1 v hv) cfB swoB 42 #[] g 0 cap l.toArray w eg (fun _ _ _ _ x y => cmpW_c x y _) hH hgl (by rw [hsz]; omega)
  change Calls Tryz.prog 41 _ _ _ at hcon
  rw [hsz] at hcon
  rw [List.length_map]
  refine hcon.mono ?_
  rintro e w' ⟨rfl, d', n, os, hp, hsd, rfl⟩
  obtain ⟨p1, -, p3⟩ := hp
  have hds : d'.size = l.length := by rw [p1, hsz]
  have hH' := holdsK_sortWorldK encB 2 w g 0 n l.toArray d' os hgl hH p1
  refine ⟨rfl, d'.toList.map Subtype.val, .inr ⟨g, 0, cap, by rw [List.length_map, show d'.toList.length = l.length by rw [Array.length_toList]; exact hds], fun i hi j hj => ?_, lt_sortWorldK encB 2 w g 0 n d' os hgl⟩, ?_, ?_, below_sorted encB 2 w g 0 n d' os hbg hgl⟩
  · have hi' : i < d'.size := by simpa using hi
    have h := (hH'.cell hi' hj).1
    rw [List.getElem_map, encB_at hj, Array.getElem_toList, ← getElem!_pos d' i hi']
    exact h
  · refine List.Perm.map _ ?_
    have e2 : d'.extract 0 l.length = d' := by rw [← hds, Array.extract_size]
    have e3 : l.toArray.extract 0 l.length = l.toArray := by rw [← hsz, Array.extract_size]
    rw [e2, e3] at p3
    exact p3
  · rw [List.pairwise_map, List.pairwise_iff_getElem]
    intro i j hi hj hij
    have h := hsd i j (Nat.zero_le _) hij (by rw [← hds]; simpa using hj)
    rw [ltB, getElem!_pos d' j (by simpa using hj), getElem!_pos d' i (by simpa using hi)] at h
    have h' := of_decide_eq_false h
    rw [Array.getElem_toList, Array.getElem_toList]
    omega
end Go.Proofs.Wk
