/- WHAT THE LISTED VARIABLES GIVE A WALK; the last step of a law that returns true and leaves what was there as it was. -/
import Derived.Test.YtcdjhgkeehhaaaaGreatDoorRows
import Derived.Test.YtcdjhgkeehhaaaaGreatDoorGE
import Derived.ProofKit
import Derived.OpenShut
import Derived.Carry
import Derived.ChangeSame
import Derived.LaidSub
import Derived.LaidMore
import Derived.Lay
import Derived.Lib.LaidTab
import Derived.Stop.LaidErr
import Derived.Stop.Joined
namespace Go.Proofs.Wk
open Go.RowKit Go.WideShapes Go.ChangeShapes

theorem lay_g10 : Tryz.prog.globalNamed "internal/strconv.uint64pow10" = some 3 := by kernel_rfl
theorem lay_g10t : (Tryz.prog.globals[3]?).map (·.type) = some 245 := by kernel_rfl
theorem lay_c20 : Tryz.prog.cellsOf 245 = 20 := by kernel_rfl
theorem lay_cu64 : Tryz.prog.cellsOf 226 = 1 := by kernel_rfl
theorem lay_ge : Tryz.prog.globalNamed "strconv.ErrRange" = some 2 := by kernel_rfl
theorem lay_get : (Tryz.prog.globals[2]?).map (·.type) = some 165 := by kernel_rfl
theorem lay_ce : Tryz.prog.cellsOf 257 = 1 := by kernel_rfl
theorem lay_cs : Tryz.prog.cellsOf 9 = 1 := by kernel_rfl
theorem lay_star : "*" ++ "errors.errorString" = "*errors.errorString" := by decide
theorem lay_row (u : TypeId) (h : Tryz.prog.typeName? 3 u = some "*errors.errorString") : u = 255 :=
  typeName_ptr_named (nm := "errors.errorString") (by rw [lay_star]; kernel_rfl) (by kernel_rfl) (by decide) u (by rw [lay_star]; exact h)

theorem good_of_laid {l : List (String × DataW Unit)} {text : List UInt8} {W : World} (h : laidMet Tryz.prog l W)
    (h1 : (l.filter fun x => x.1 == "internal/strconv.uint64pow10") = [("internal/strconv.uint64pow10", Lib.tabData .u64 Lib.pow10Tab)])
    (h2 : (l.filter fun x => x.1 == "strconv.ErrRange") = [("strconv.ErrRange", .iface "*errors.errorString" (.ptr (.agg [.lit (.string text)])))]) : Good W := by
  have a1 := h.filter fun x => x.1 == "internal/strconv.uint64pow10"
  have a2 := h.filter fun x => x.1 == "strconv.ErrRange"
  rw [h1] at a1
  rw [h2] at a2
  refine ⟨Lib.tabIs_of_head lay_g10 lay_g10t Tryz.underlying245 Tryz.underlying226 lay_cu64 lay_c20 a1, ?_⟩
  obtain ⟨a, s, hv, _⟩ := laid_sentinel a2 lay_ge lay_get Tryz.underlying165 lay_row Tryz.underlying255 Tryz.underlying257 rfl rfl Tryz.underlying9 lay_ce lay_cs
  exact ⟨_, _, hv⟩

section
variable {H : Type} {enc : TypeId × Value → H} {P : Program}
/-- Arguments that read as they did. -/
theorem below_trodAll (hl : laidOutB P = true) {W W' : World} (hb : Below W.heap.size W W') : ∀ {ts : List TypeId} {vs : List Value} {ds : List (DataW H)} {ps : List MemPlace},
    (ts.all fun t => P.readableRec t && decide (t < P.types.size)) = true → DataW.TrodAll enc P W 0 (fun _ => true) true ts vs ds ps → (∀ x ∈ ps, x.block < W.heap.size) →
    DataW.TrodAll enc P W' 0 (fun b => decide (b < W.heap.size)) true ts vs ds ps
  | [], vs, ds, ps, _, h, _ => by
    obtain ⟨rfl, rfl, rfl⟩ := trodAll_nil h
    exact trodAll_mk0
  | t :: ts, vs, ds, ps, hr, h, hlt => by
    obtain ⟨v, vs', d, ds', p, q, rfl, rfl, rfl, h0, h1⟩ := trodAll_cons h
    simp only [List.all_cons, Bool.and_eq_true, decide_eq_true_eq] at hr
    exact trodAll_cons_mk (Below.trod hl hr.1.1 hr.1.2 h0 hb fun x hx => hlt x (List.mem_append_left _ hx)) (below_trodAll hl hb hr.2 h1 fun x hx => hlt x (List.mem_append_right _ hx))

/-- A law's last step: it returned true, and what was there is as it was. -/
theorem law_post {f : Func} {s : ChangeSpec} {fresh handsOn : Bool} {W W' : World} {args : Array Value} {ds gs : List (DataW H)} {before : List MemPlace} {tb : TypeId}
    (hW : DataW.Whole enc P f.params.toList s.vars false W args.toList ds gs before) (hv : s.vars = [])
    (hs : s.fn H (ds ++ gs) = { results := [.lit (.bool true)], args := ds })
    (hr : f.resultTypes = #[tb]) (hub : P.underlying tb = some .bool) (hl : laidOutB P = true)
    (hp : (f.params.toList.all fun t => P.readableRec t && decide (t < P.types.size)) = true) (hb : Below W.heap.size W W') :
    s.post enc P f false fresh handsOn false W args (.bool true) W' := by
  have hlt : ∀ p ∈ before, p.block < W.heap.size := fun p hp => hW.lt p hp
  have hW' := hW
  obtain ⟨p, q, hA, hV, rfl, hz, hn⟩ := hW
  rw [hv] at hV
  obtain ⟨rfl, rfl⟩ := trodVars_none hV
  have hargs := below_trodAll hl hb hp hA fun x hx => hlt x (List.mem_append_left _ hx)
  have hres : ∀ (b : Nat) (sp : Nat → Bool) (hd : Bool), DataW.TrodAll enc P W' b sp hd f.resultTypes.toList ((Value.bool true).resultList f.resultTypes.size) [.lit (.bool true)] [] := by
    intro b sp hd
    rw [hr]
    exact trodAll_mk1 (shut_bool hub _)
  have hp2 : ∀ x ∈ p, x.block < W.heap.size := fun x hx => hlt x (List.mem_append_left _ hx)
  refine ⟨ds, [], p ++ [], [], p, [], hW', by rw [hs]; exact hres _ _ _, by rw [hs]; exact hargs, by rw [hs, hv]; rfl, World.keptBut_mono (fun x hx => ⟨hx, ?_⟩) (hb.frame (· ∈ p ++ [])), fun h => by cases h⟩
  exact Or.inr (List.mem_append.1 hx)
end
end Go.Proofs.Wk
