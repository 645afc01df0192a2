/- WHAT CAME IN, OPENED PART BY PART: texts, ints, bools, slices of rows, structs and arrays within structs. -/
import Derived.Test.YtdpjkfkmlaphhaaGreatDoorOpen
import Derived.Test.YtdpjkfkmlaphhaaGreatDoorKB
import Derived.Deep.Slices
import Derived.Deep.Fields
import Derived.Test.YtdpjkfkmlaphhaaGreatDoorPB
import Derived.Test.YtdpjkfkmlaphhaaGreatDoorRows
import Derived.Test.YtdpjkfkmlaphhaaGreatDoorGE
import Derived.ProofKit
import Derived.OpenShut
import Derived.Carry
import Derived.ChangeSame
import Derived.LaidSub
import Derived.LaidMore
import Derived.Lay
import Derived.Lib.LaidTab
import Derived.Stop.LaidErr
import Derived.Stop.Joined
namespace Go.Proofs.Wk
open Go.RowKit Go.WideShapes Go.ChangeShapes Go.Deep

section
variable {H : Type} {enc : TypeId × Value → H} {P : Program} {W : World}
/-- All that a datum's reading weighs is within reach. -/
def WtB (P : Program) (t : TypeId) (D : DataW H) : Prop := ∀ k ∈ D.weights P t, k ≤ 140737488355328
theorem WtB.of {ts : List TypeId} {ds : List (DataW H)} {j : Nat} {t : TypeId} {d : DataW H} (hsz : (DataW.weightsEach P ts ds).all (· ≤ reachBytes) = true) (hj : ts[j]? = some t) (hd : ds[j]? = some d) : WtB P t d :=
  fun _ hk => Nat.le_trans (of_decide_eq_true (List.all_eq_true.1 hsz _ (DataW.weights_mem_each hj hd _ hk))) reach47
theorem WtB.field {t : TypeId} {fs : Array Field} {xs : List (DataW H)} (ht : P.underlying t = some (.struct fs)) (h : WtB P t (.agg xs)) {i : Nat} {f : Field} {d : DataW H} (hf : fs[i]? = some f) (hd : xs[i]? = some d) : WtB P f.type d := by
  intro k hk
  refine h k ?_
  simp only [DataW.weights, ht]
  exact DataW.weights_mem_each (j := i) (by rw [List.getElem?_map, ← Array.getElem?_toList.symm]; simp [hf]) hd _ hk
theorem WtB.elem {t e : TypeId} {xs zs : List (DataW H)} (ht : P.underlying t = some (.slice e)) (h : WtB P t (.slice xs zs)) {d : DataW H} (hd : d ∈ xs) : WtB P e d := by
  intro k hk
  refine h k ?_
  simp only [DataW.weights, ht]
  exact List.mem_cons_of_mem _ (List.mem_append_left _ (weightsAll_mem hd hk))
theorem WtB.arr {t e : TypeId} {n : Nat} {xs : List (DataW H)} (ht : P.underlying t = some (.array n e)) (h : WtB P t (.agg xs)) {d : DataW H} (hd : d ∈ xs) : WtB P e d := by
  intro k hk
  refine h k ?_
  simp only [DataW.weights, ht]
  exact weightsAll_mem hd hk
abbrev Tr (enc : TypeId × Value → H) (P : Program) (W : World) (n : Nat) (t : TypeId) (cs : List Value) (y : DataW H × List MemPlace) : Prop := DataW.trod enc P W 0 (fun _ => true) true n t cs = some y
theorem tr_str {n : Nat} {t : TypeId} {cs : List Value} {y : DataW H × List MemPlace} (ht : P.underlying t = some .string) (h : Tr enc P W n t cs y) (hw : WtB P t y.1) : ∃ l : List UInt8, cs = [.string ⟨l.toArray⟩] ∧ l.length ≤ 140737488355328 := by
  obtain ⟨s, rfl, rfl, -⟩ := DataW.trod_string ht h
  exact ⟨s.data.toList, by cases s; rfl, hw _ (by simp [DataW.weights])⟩
theorem tr_int {n : Nat} {t : TypeId} {cs : List Value} {y : DataW H × List MemPlace} (ht : P.underlying t = some (.int .i64)) (h : Tr enc P W n t cs y) : ∃ k : Int, cs = [.int .i64 k] ∧ -9223372036854775808 ≤ k ∧ k ≤ 9223372036854775807 := by
  obtain ⟨k, rfl, -, hw⟩ := DataW.trod_int ht h
  exact ⟨k, rfl, by simpa [Lit.wf, IntKind.min, IntKind.max, IntKind.signed, IntKind.bits] using hw⟩
theorem tr_bool {n : Nat} {t : TypeId} {cs : List Value} {y : DataW H × List MemPlace} (ht : P.underlying t = some .bool) (h : Tr enc P W n t cs y) : ∃ b : Bool, cs = [.bool b] := by
  obtain ⟨b, rfl, -⟩ := DataW.trod_bool ht h
  exact ⟨b, rfl⟩
/-- A slice of rows. -/
theorem tr_rows {α : Type} [Row α] {n : Nat} {t e : TypeId} {cs : List Value} {y : DataW H × List MemPlace} {B : Nat} (ht : P.underlying t = some (.slice e)) (hc : P.cellsOf e = Row.k α) (hby : P.bytesOf e = B) {Q : α → Prop}
    (hel : ∀ n cs y, Tr enc P W n e cs y → WtB P e y.1 → ∃ x : α, cs = Row.enc x ∧ Q x) (h : Tr enc P W n t cs y) (hw : WtB P t y.1) :
    ∃ v, cs = [v] ∧ ∃ ls : List α, SlX W v ls ∧ ls.length * B ≤ 140737488355328 ∧ (∀ x ∈ ls, Q x) ∧ ∃ a cap, v = .slice a ls.length cap ∧ ls.length ≤ cap := by
  rcases Go.Deep.open_slice ht h with ⟨rfl, hx⟩ | ⟨a, len, cap, m, n, D, Pl, rfl, _, hl, hm, hmm, hx, hcell⟩
  · exact ⟨_, rfl, [], .inl ⟨_, _, rfl, rfl⟩, by simp, by simp, _, _, rfl, Nat.le_refl _⟩
  · subst hx
    simp only [if_true] at hmm
    by_cases hl0 : len = 0
    · subst hl0
      exact ⟨_, rfl, [], .inl ⟨_, _, rfl, rfl⟩, by simp, by simp, _, _, rfl, Nat.zero_le _⟩
    · have hsz : (len + (m - len)) * B ≤ 140737488355328 := by
        refine hw _ ?_
        simp only [DataW.weights, ht, hby, List.length_map, List.length_range]
        exact List.mem_cons_self
      have hk := Row.pos (α := α)
      have each : ∀ i, i < len → ∃ x : α, (∀ k, k < Row.k α → W.cell? (a.add (i * Row.k α + k)) = (Row.enc x)[k]?) ∧ Q x := by
        intro i hi
        obtain ⟨cs', h1, h2⟩ := hcell i (by omega)
        obtain ⟨x, rfl, hq⟩ := hel _ _ _ h2 (WtB.elem ht hw (List.mem_map.2 ⟨i, List.mem_range.2 hi, rfl⟩))
        rw [hc] at h1
        obtain ⟨_, _, h3⟩ := World.cells?_some h1
        refine ⟨x, fun k hk => ?_, hq⟩
        have := h3 k hk
        rw [Go.Deep.add_add] at this
        exact this
      obtain ⟨x0, hx0, -⟩ := each 0 (by omega)
      haveI : Inhabited α := ⟨x0⟩
      obtain ⟨b, off, spot⟩ := a
      have h00 := hx0 0 hk
      rw [List.getElem?_eq_getElem (by rw [Row.len]; exact hk)] at h00
      have hspot : spot = none := by simpa [Addr.add] using World.cell?_spot h00
      subst hspot
      have hbW : b < W.heap.size := by
        rw [add_plain] at h00
        exact World.block_lt_of_cell? W _ h00
      obtain ⟨f, hf'⟩ := Go.Deep.choose_lt each
      refine ⟨_, rfl, (List.range len).map f, .inr ⟨b, off, cap, by simp, fun i hi k hk => ?_, hbW⟩, ?_, fun x hx => ?_, _, cap, by rw [List.length_map, List.length_range], by rw [List.length_map, List.length_range]; exact hl⟩
      · simp only [List.length_map, List.length_range] at hi
        have := (hf' i (by omega)).1 k hk
        rw [add_plain, ← Nat.add_assoc] at this
        rw [this]
        simp
      · simp only [List.length_map, List.length_range]
        have : len * B ≤ (len + (m - len)) * B := Nat.mul_le_mul_right B (Nat.le_add_right _ _)
        omega
      · obtain ⟨i, hi, rfl⟩ := List.mem_map.1 hx
        exact (hf' i (List.mem_range.1 hi)).2
/-- A struct, field by field. -/
theorem tr_struct {n : Nat} {t : TypeId} {fs : Array Field} {cs : List Value} {y : DataW H × List MemPlace} (ht : P.underlying t = some (.struct fs)) (h : Tr enc P W n t cs y) (hw : WtB P t y.1) :
    ∃ n', cs.length = P.cellsOf t ∧ ∀ (i : Nat) (f : Field), fs[i]? = some f → ∃ z, Tr enc P W n' f.type ((cs.drop f.offset).take (P.cellsOf f.type)) z ∧ WtB P f.type z.1 := by
  obtain ⟨xs, k, _, rfl, hl, hxl, hf⟩ := DataW.trod_struct ht h
  refine ⟨k, hl, fun i f hi => ?_⟩
  have hlt : i < xs.length := by rw [hxl]; exact (Array.getElem?_eq_some_iff.1 hi).1
  have g := hf i f hi
  rw [List.getElem?_eq_getElem hlt] at g
  exact ⟨xs[i], g, WtB.field ht hw hi (by rw [List.getElem?_map, List.getElem?_eq_getElem hlt]; rfl)⟩
/-- An array of three texts. -/
theorem tr_arr3 {n : Nat} {t e : TypeId} {cs : List Value} {y : DataW H × List MemPlace} (ht : P.underlying t = some (.array 3 e)) (he : P.underlying e = some .string) (hc : P.cellsOf e = 1) (hc3 : P.cellsOf t = 3) (hl : cs.length = 3) (h : Tr enc P W n t cs y) (hw : WtB P t y.1) :
    ∃ a b c : List UInt8, cs = [.string ⟨a.toArray⟩, .string ⟨b.toArray⟩, .string ⟨c.toArray⟩] ∧ a.length ≤ 140737488355328 ∧ b.length ≤ 140737488355328 ∧ c.length ≤ 140737488355328 := by
  match cs, hl with
  | [v0, v1, v2], _ =>
    cases n with
    | zero => simp [Tr, DataW.trod] at h
    | succ m =>
      unfold Tr at h
      rw [DataW.trod_step] at h
      unfold DataW.trodStep at h
      simp only [ht] at h
      rw [if_pos (by rw [hc3]; rfl), hc] at h
      simp only [Option.map_eq_some_iff] at h
      obtain ⟨xs, hm, hx⟩ := h
      simp only [show List.range 3 = [0, 1, 2] from rfl, List.mapM_cons, List.mapM_nil, bind, Option.bind_eq_some_iff, pure, Option.some.injEq] at hm
      obtain ⟨y0, q0, r0, ⟨y1, q1, r1, ⟨y2, q2, r2, rfl, rfl⟩, rfl⟩, rfl⟩ := hm
      subst hx
      obtain ⟨a, ea, la⟩ := tr_str he q0 (WtB.arr ht hw (by simp))
      obtain ⟨b, eb, lb⟩ := tr_str he q1 (WtB.arr ht hw (by simp))
      obtain ⟨c, ec, lc⟩ := tr_str he q2 (WtB.arr ht hw (by simp))
      simp at ea eb ec
      exact ⟨a, b, c, by rw [ea, eb, ec], la, lb, lc⟩
end
end Go.Proofs.Wk
/- A CASE, A TORSOR, A LIST OF TORSORS, A POINT IN SPACE THAT CAME IN. -/
namespace Go.Proofs.Wk
open Go.RowKit Go.WideShapes Go.ChangeShapes Go.Deep Po

theorem lst2 {β : Type} {l : List β} (h : l.length = 2) : ∃ a b, l = [a, b] := by
  match l, h with
  | [a, b], _ => exact ⟨a, b, rfl⟩
theorem lst3 {β : Type} {l : List β} (h : l.length = 3) : ∃ a b c, l = [a, b, c] := by
  match l, h with
  | [a, b, c], _ => exact ⟨a, b, c, rfl⟩
theorem lst5 {β : Type} {l : List β} (h : l.length = 5) : ∃ a b c d e, l = [a, b, c, d, e] := by
  match l, h with
  | [a, b, c, d, e], _ => exact ⟨a, b, c, d, e, rfl⟩
theorem lst6 {β : Type} {l : List β} (h : l.length = 6) : ∃ a b c d e f, l = [a, b, c, d, e, f] := by
  match l, h with
  | [a, b, c, d, e, f], _ => exact ⟨a, b, c, d, e, f, rfl⟩
theorem lst9 {β : Type} {l : List β} (h : l.length = 9) : ∃ a b c d e f g i j, l = [a, b, c, d, e, f, g, i, j] := by
  match l, h with
  | [a, b, c, d, e, f, g, i, j], _ => exact ⟨a, b, c, d, e, f, g, i, j, rfl⟩
theorem lst16 {β : Type} {l : List β} (h : l.length = 16) : ∃ a b c d e f g i j k m n o p q r, l = [a, b, c, d, e, f, g, i, j, k, m, n, o, p, q, r] := by
  match l, h with
  | [a, b, c, d, e, f, g, i, j, k, m, n, o, p, q, r], _ => exact ⟨a, b, c, d, e, f, g, i, j, k, m, n, o, p, q, r, rfl⟩
section
variable {H : Type} {enc : TypeId × Value → H} {W : World}
theorem ce_int : Tryz.prog.cellsOf 3 = 1 := by kernel_rfl
theorem ce_str : Tryz.prog.cellsOf 9 = 1 := by kernel_rfl
theorem ce_bool : Tryz.prog.cellsOf 4 = 1 := by kernel_rfl
theorem ce_spot : Tryz.prog.cellsOf 23 = 3 := by kernel_rfl
theorem ce_lim : Tryz.prog.cellsOf 25 = 2 := by kernel_rfl
theorem ce_dat : Tryz.prog.cellsOf 188 = 2 := by kernel_rfl
theorem ce_dats : Tryz.prog.cellsOf 29 = 1 := by kernel_rfl
theorem ce_fra : Tryz.prog.cellsOf 31 = 5 := by kernel_rfl
theorem ce_fras : Tryz.prog.cellsOf 26 = 1 := by kernel_rfl
theorem ce_fea : Tryz.prog.cellsOf 28 = 9 := by kernel_rfl
theorem ce_spots : Tryz.prog.cellsOf 32 = 1 := by kernel_rfl
theorem ce_case : Tryz.prog.cellsOf 34 = 16 := by kernel_rfl
theorem ce_rat : Tryz.prog.cellsOf 35 = 1 := by kernel_rfl
theorem ce_rat3 : Tryz.prog.cellsOf 36 = 3 := by kernel_rfl
theorem ce_tor : Tryz.prog.cellsOf 38 = 6 := by kernel_rfl
theorem tr_sp {n : Nat} {cs : List Value} {y : DataW H × List MemPlace} (h : Tr enc Tryz.prog W n 23 cs y) (hw : WtB Tryz.prog 23 y.1) : ∃ p : Sp, cs = spC p := by
  obtain ⟨m, hl, hf⟩ := tr_struct Tryz.underlying23 h hw
  rw [ce_spot] at hl
  obtain ⟨v0, v1, v2, rfl⟩ := lst3 hl
  obtain ⟨z0, g0, -⟩ := hf 0 _ rfl
  obtain ⟨z1, g1, -⟩ := hf 1 _ rfl
  obtain ⟨z2, g2, -⟩ := hf 2 _ rfl
  replace g0 : Tr enc Tryz.prog W m 3 (([v0, v1, v2].drop 0).take (Tryz.prog.cellsOf 3)) z0 := g0
  replace g1 : Tr enc Tryz.prog W m 3 (([v0, v1, v2].drop 1).take (Tryz.prog.cellsOf 3)) z1 := g1
  replace g2 : Tr enc Tryz.prog W m 3 (([v0, v1, v2].drop 2).take (Tryz.prog.cellsOf 3)) z2 := g2
  rw [ce_int] at g0 g1 g2
  obtain ⟨n0, e0, -⟩ := tr_int Tryz.underlying3 g0
  obtain ⟨n1, e1, -⟩ := tr_int Tryz.underlying3 g1
  obtain ⟨n2, e2, -⟩ := tr_int Tryz.underlying3 g2
  simp at e0 e1 e2
  subst e0 e1 e2
  exact ⟨⟨n0, n1, n2⟩, rfl⟩
theorem tr_lim {n : Nat} {cs : List Value} {y : DataW H × List MemPlace} (h : Tr enc Tryz.prog W n 25 cs y) (hw : WtB Tryz.prog 25 y.1) : ∃ a b : Int, cs = [.int .i64 a, .int .i64 b] := by
  obtain ⟨m, hl, hf⟩ := tr_struct Tryz.underlying25 h hw
  rw [ce_lim] at hl
  obtain ⟨v0, v1, rfl⟩ := lst2 hl
  obtain ⟨z0, g0, -⟩ := hf 0 _ rfl
  obtain ⟨z1, g1, -⟩ := hf 1 _ rfl
  replace g0 : Tr enc Tryz.prog W m 3 (([v0, v1].drop 0).take (Tryz.prog.cellsOf 3)) z0 := g0
  replace g1 : Tr enc Tryz.prog W m 3 (([v0, v1].drop 1).take (Tryz.prog.cellsOf 3)) z1 := g1
  rw [ce_int] at g0 g1
  obtain ⟨n0, e0, -⟩ := tr_int Tryz.underlying3 g0
  obtain ⟨n1, e1, -⟩ := tr_int Tryz.underlying3 g1
  simp at e0 e1
  subst e0 e1
  exact ⟨n0, n1, rfl⟩
theorem tr_dt {n : Nat} {cs : List Value} {y : DataW H × List MemPlace} (h : Tr enc Tryz.prog W n 188 cs y) (hw : WtB Tryz.prog 188 y.1) : ∃ d : Dt, cs = Row.enc d ∧ d.nm.length ≤ 140737488355328 := by
  obtain ⟨m, hl, hf⟩ := tr_struct Tryz.underlying188 h hw
  rw [ce_dat] at hl
  obtain ⟨v0, v1, rfl⟩ := lst2 hl
  obtain ⟨z0, g0, w0⟩ := hf 0 _ rfl
  obtain ⟨z1, g1, -⟩ := hf 1 _ rfl
  replace g0 : Tr enc Tryz.prog W m 9 (([v0, v1].drop 0).take (Tryz.prog.cellsOf 9)) z0 := g0
  replace g1 : Tr enc Tryz.prog W m 3 (([v0, v1].drop 1).take (Tryz.prog.cellsOf 3)) z1 := g1
  rw [ce_str] at g0
  rw [ce_int] at g1
  obtain ⟨n0, e0, q0⟩ := tr_str Tryz.underlying9 g0 w0
  obtain ⟨n1, e1, -⟩ := tr_int Tryz.underlying3 g1
  simp at e0 e1
  subst e0 e1
  exact ⟨⟨n0, n1⟩, rfl, q0⟩
theorem tr_fra {n : Nat} {cs : List Value} {y : DataW H × List MemPlace} (h : Tr enc Tryz.prog W n 31 cs y) (hw : WtB Tryz.prog 31 y.1) : ∃ (x : Fm) (v : Value) (ds : List Dt), cs = [.int .i64 x.kind, .bool x.disc, .int .i64 x.tol, .int .i64 x.mat, v] ∧ DtS W v ds := by
  obtain ⟨m, hl, hf⟩ := tr_struct Tryz.underlying31 h hw
  rw [ce_fra] at hl
  obtain ⟨v0, v1, v2, v3, v4, rfl⟩ := lst5 hl
  obtain ⟨z0, g0, -⟩ := hf 0 _ rfl
  obtain ⟨z1, g1, -⟩ := hf 1 _ rfl
  obtain ⟨z2, g2, -⟩ := hf 2 _ rfl
  obtain ⟨z3, g3, -⟩ := hf 3 _ rfl
  obtain ⟨z4, g4, w4⟩ := hf 4 _ rfl
  replace g0 : Tr enc Tryz.prog W m 3 (([v0, v1, v2, v3, v4].drop 0).take (Tryz.prog.cellsOf 3)) z0 := g0
  replace g1 : Tr enc Tryz.prog W m 4 (([v0, v1, v2, v3, v4].drop 1).take (Tryz.prog.cellsOf 4)) z1 := g1
  replace g2 : Tr enc Tryz.prog W m 3 (([v0, v1, v2, v3, v4].drop 2).take (Tryz.prog.cellsOf 3)) z2 := g2
  replace g3 : Tr enc Tryz.prog W m 3 (([v0, v1, v2, v3, v4].drop 3).take (Tryz.prog.cellsOf 3)) z3 := g3
  replace g4 : Tr enc Tryz.prog W m 29 (([v0, v1, v2, v3, v4].drop 4).take (Tryz.prog.cellsOf 29)) z4 := g4
  replace w4 : WtB Tryz.prog 29 z4.1 := w4
  rw [ce_int] at g0 g2 g3
  rw [ce_bool] at g1
  rw [ce_dats] at g4
  obtain ⟨n0, e0, -⟩ := tr_int Tryz.underlying3 g0
  obtain ⟨n1, e1⟩ := tr_bool Tryz.underlying4 g1
  obtain ⟨n2, e2, -⟩ := tr_int Tryz.underlying3 g2
  obtain ⟨n3, e3, -⟩ := tr_int Tryz.underlying3 g3
  obtain ⟨v, e4, ds, hS, hB, hQ, hC⟩ := tr_rows (α := Dt) (e := 188) (B := 24) Tryz.underlying29 ce_dat (by kernel_rfl) (Q := fun d => d.nm.length ≤ 140737488355328) (fun n cs y h hw => tr_dt h hw) g4 w4
  simp at e0 e1 e2 e3 e4
  subst e0 e1 e2 e3 e4
  exact ⟨⟨n0, n1, n2, n3⟩, _, ds, rfl, hS, by omega, hQ, hC⟩
theorem tr_fea {n : Nat} {cs : List Value} {y : DataW H × List MemPlace} (h : Tr enc Tryz.prog W n 28 cs y) (hw : WtB Tryz.prog 28 y.1) :
    ∃ (f : Ft) (v : Value) (fs : List FrV), cs = [.string ⟨f.nm.toArray⟩, .int .i64 f.kind, .int .i64 f.axis, .int .i64 f.pos.x, .int .i64 f.pos.y, .int .i64 f.pos.z, .int .i64 f.lo, .int .i64 f.hi, v] ∧ FrS W v fs ∧ f.nm.length ≤ 140737488355328 := by
  obtain ⟨m, hl, hf⟩ := tr_struct Tryz.underlying28 h hw
  rw [ce_fea] at hl
  obtain ⟨v0, v1, v2, v3, v4, v5, v6, v7, v8, rfl⟩ := lst9 hl
  obtain ⟨z0, g0, w0⟩ := hf 0 _ rfl
  obtain ⟨z1, g1, -⟩ := hf 1 _ rfl
  obtain ⟨z2, g2, -⟩ := hf 2 _ rfl
  obtain ⟨z3, g3, w3⟩ := hf 3 _ rfl
  obtain ⟨z4, g4, w4⟩ := hf 4 _ rfl
  obtain ⟨z5, g5, w5⟩ := hf 5 _ rfl
  replace g0 : Tr enc Tryz.prog W m 9 (([v0, v1, v2, v3, v4, v5, v6, v7, v8].drop 0).take (Tryz.prog.cellsOf 9)) z0 := g0
  replace g1 : Tr enc Tryz.prog W m 3 (([v0, v1, v2, v3, v4, v5, v6, v7, v8].drop 1).take (Tryz.prog.cellsOf 3)) z1 := g1
  replace g2 : Tr enc Tryz.prog W m 3 (([v0, v1, v2, v3, v4, v5, v6, v7, v8].drop 2).take (Tryz.prog.cellsOf 3)) z2 := g2
  replace g3 : Tr enc Tryz.prog W m 23 (([v0, v1, v2, v3, v4, v5, v6, v7, v8].drop 3).take (Tryz.prog.cellsOf 23)) z3 := g3
  replace w3 : WtB Tryz.prog 23 z3.1 := w3
  replace g4 : Tr enc Tryz.prog W m 25 (([v0, v1, v2, v3, v4, v5, v6, v7, v8].drop 6).take (Tryz.prog.cellsOf 25)) z4 := g4
  replace w4 : WtB Tryz.prog 25 z4.1 := w4
  replace g5 : Tr enc Tryz.prog W m 26 (([v0, v1, v2, v3, v4, v5, v6, v7, v8].drop 8).take (Tryz.prog.cellsOf 26)) z5 := g5
  replace w5 : WtB Tryz.prog 26 z5.1 := w5
  rw [ce_str] at g0
  rw [ce_int] at g1 g2
  rw [ce_spot] at g3
  rw [ce_lim] at g4
  rw [ce_fras] at g5
  obtain ⟨n0, e0, q0⟩ := tr_str Tryz.underlying9 g0 w0
  obtain ⟨n1, e1, -⟩ := tr_int Tryz.underlying3 g1
  obtain ⟨n2, e2, -⟩ := tr_int Tryz.underlying3 g2
  obtain ⟨p, e3⟩ := tr_sp g3 w3
  obtain ⟨lo, hi, e4⟩ := tr_lim g4 w4
  obtain ⟨v, e5, fs, hS, hB, hQ, -⟩ := tr_rows (α := FrV) (e := 31) (B := 56) Tryz.underlying26 ce_fra (by kernel_rfl) (Q := fun f => ∃ ds : List Dt, f.len = ds.length ∧ DtS W (.slice f.a f.len f.cap) ds) (fun n cs y h hw => by
    obtain ⟨x, v, ds, rfl, hD⟩ := tr_fra h hw
    obtain ⟨a, cap, rfl, -⟩ := hD.form
    exact ⟨⟨x, a, ds.length, cap⟩, rfl, ds, rfl, hD⟩) g5 w5
  simp [spC] at e0 e1 e2 e3 e4 e5
  obtain ⟨rfl, rfl, rfl⟩ := e3
  obtain ⟨rfl, rfl⟩ := e4
  subst e0 e1 e2 e5
  exact ⟨⟨n0, n1, n2, p, lo, hi⟩, _, fs, rfl, ⟨hS, by omega, hQ⟩, q0⟩
theorem tr_case {n : Nat} {cs : List Value} {y : DataW H × List MemPlace} (h : Tr enc Tryz.prog W n 34 cs y) (hw : WtB Tryz.prog 34 y.1) :
    ∃ (c : Ca) (fv dv sv : Value) (ds : List Dt) (ls : List Sp), cs = (caC c fv dv sv).toList ∧ CaS W c fv dv sv ds ls := by
  obtain ⟨m, hl, hf⟩ := tr_struct Tryz.underlying34 h hw
  rw [ce_case] at hl
  obtain ⟨v0, v1, v2, v3, v4, v5, v6, v7, v8, v9, va, vb, vc, vd, ve, vf, rfl⟩ := lst16 hl
  obtain ⟨z0, g0, w0⟩ := hf 0 _ rfl
  obtain ⟨z1, g1, w1⟩ := hf 1 _ rfl
  obtain ⟨z2, g2, w2⟩ := hf 2 _ rfl
  obtain ⟨z3, g3, -⟩ := hf 3 _ rfl
  replace g0 : Tr enc Tryz.prog W m 28 (([v0, v1, v2, v3, v4, v5, v6, v7, v8, v9, va, vb, vc, vd, ve, vf].drop 0).take (Tryz.prog.cellsOf 28)) z0 := g0
  replace w0 : WtB Tryz.prog 28 z0.1 := w0
  replace g1 : Tr enc Tryz.prog W m 31 (([v0, v1, v2, v3, v4, v5, v6, v7, v8, v9, va, vb, vc, vd, ve, vf].drop 9).take (Tryz.prog.cellsOf 31)) z1 := g1
  replace w1 : WtB Tryz.prog 31 z1.1 := w1
  replace g2 : Tr enc Tryz.prog W m 32 (([v0, v1, v2, v3, v4, v5, v6, v7, v8, v9, va, vb, vc, vd, ve, vf].drop 14).take (Tryz.prog.cellsOf 32)) z2 := g2
  replace w2 : WtB Tryz.prog 32 z2.1 := w2
  replace g3 : Tr enc Tryz.prog W m 3 (([v0, v1, v2, v3, v4, v5, v6, v7, v8, v9, va, vb, vc, vd, ve, vf].drop 15).take (Tryz.prog.cellsOf 3)) z3 := g3
  rw [ce_fea] at g0
  rw [ce_fra] at g1
  rw [ce_spots] at g2
  rw [ce_int] at g3
  obtain ⟨f, fv, fs, e0, hF, hN⟩ := tr_fea g0 w0
  obtain ⟨x, dv, ds, e1, hD⟩ := tr_fra g1 w1
  obtain ⟨sv, e2, ls, hS, hB, -, -⟩ := tr_rows (α := Sp) (e := 23) (B := 24) Tryz.underlying32 ce_spot (by kernel_rfl) (Q := fun _ => True) (fun n cs y h hw => by
    obtain ⟨p, rfl⟩ := tr_sp h hw
    exact ⟨p, rfl, trivial⟩) g2 w2
  obtain ⟨b, e3, -⟩ := tr_int Tryz.underlying3 g3
  simp at e0 e1 e2 e3
  obtain ⟨rfl, rfl, rfl, rfl, rfl, rfl, rfl, rfl, rfl⟩ := e0
  obtain ⟨rfl, rfl, rfl, rfl, rfl⟩ := e1
  subst e2 e3
  exact ⟨⟨f, x, b⟩, _, _, _, ds, ls, rfl, ⟨fs, hF⟩, hD, hS, by omega, hN⟩
theorem tr_tor {n : Nat} {cs : List Value} {y : DataW H × List MemPlace} (h : Tr enc Tryz.prog W n 38 cs y) (hw : WtB Tryz.prog 38 y.1) : ∃ t : TT, cs = Row.enc t ∧ ∀ l ∈ t.l, l.length ≤ 140737488355328 := by
  obtain ⟨m, hl, hf⟩ := tr_struct Tryz.underlying38 h hw
  rw [ce_tor] at hl
  obtain ⟨v0, v1, v2, v3, v4, v5, rfl⟩ := lst6 hl
  obtain ⟨z0, g0, w0⟩ := hf 0 _ rfl
  obtain ⟨z1, g1, w1⟩ := hf 1 _ rfl
  replace g0 : Tr enc Tryz.prog W m 36 (([v0, v1, v2, v3, v4, v5].drop 0).take (Tryz.prog.cellsOf 36)) z0 := g0
  replace w0 : WtB Tryz.prog 36 z0.1 := w0
  replace g1 : Tr enc Tryz.prog W m 36 (([v0, v1, v2, v3, v4, v5].drop 3).take (Tryz.prog.cellsOf 36)) z1 := g1
  replace w1 : WtB Tryz.prog 36 z1.1 := w1
  rw [ce_rat3] at g0 g1
  obtain ⟨a, b, c, e0, q0, q1, q2⟩ := tr_arr3 Tryz.underlying36 Tryz.underlying35 ce_rat ce_rat3 rfl g0 w0
  obtain ⟨d, e, f, e1, q3, q4, q5⟩ := tr_arr3 Tryz.underlying36 Tryz.underlying35 ce_rat ce_rat3 rfl g1 w1
  simp at e0 e1
  obtain ⟨rfl, rfl, rfl⟩ := e0
  obtain ⟨rfl, rfl, rfl⟩ := e1
  refine ⟨⟨a, b, c, d, e, f⟩, rfl, fun l hl => ?_⟩
  simp only [TT.l, List.mem_cons, List.not_mem_nil, or_false] at hl
  rcases hl with rfl | rfl | rfl | rfl | rfl | rfl <;> assumption
end
section
variable {H : Type} {enc : TypeId × Value → H} {W : World} {r : Reach} {base : Nat} {v : Value} {d : DataW H} {ps : List MemPlace} {ts : List TypeId} {ds : List (DataW H)} {j : Nat}
set_option maxRecDepth 100000 in
theorem open_case (hval : Value.okWide Tryz.prog W r base 34 v) (h : DataW.Trod enc Tryz.prog W 0 (fun _ => true) true 34 v d ps) (hsz : (DataW.weightsEach Tryz.prog ts ds).all (· ≤ reachBytes) = true) (hj : ts[j]? = some 34) (hd : ds[j]? = some d) :
    ∃ (c : Ca) (fv dv sv : Value) (es : List Dt) (ls : List Sp), v = caV c fv dv sv ∧ CaS W c fv dv sv es ls := by
  obtain ⟨cs, rfl, -⟩ := okWide_struct Tryz.underlying34 hval
  obtain ⟨fuel, hf⟩ := h
  obtain ⟨c, fv, dv, sv, es, ls, e, hS⟩ := tr_case hf (WtB.of hsz hj hd)
  refine ⟨c, fv, dv, sv, es, ls, ?_, hS⟩
  simp only [Value.cells] at e
  exact congrArg Value.agg (Array.toList_inj.1 e)
set_option maxRecDepth 100000 in
theorem open_tor (hval : Value.okWide Tryz.prog W r base 38 v) (h : DataW.Trod enc Tryz.prog W 0 (fun _ => true) true 38 v d ps) (hsz : (DataW.weightsEach Tryz.prog ts ds).all (· ≤ reachBytes) = true) (hj : ts[j]? = some 38) (hd : ds[j]? = some d) :
    ∃ t : TT, v = ttV t ∧ ∀ l ∈ t.l, l.length ≤ 140737488355328 := by
  obtain ⟨cs, rfl, -⟩ := okWide_struct Tryz.underlying38 hval
  obtain ⟨fuel, hf⟩ := h
  obtain ⟨t, e, hS⟩ := tr_tor hf (WtB.of hsz hj hd)
  refine ⟨t, ?_, hS⟩
  obtain ⟨l⟩ := cs
  simp only [Value.cells] at e
  have hl : l = Row.enc t := by simpa using e
  rw [hl]; rfl
set_option maxRecDepth 100000 in
theorem open_spot (hval : Value.okWide Tryz.prog W r base 23 v) (h : DataW.Trod enc Tryz.prog W 0 (fun _ => true) true 23 v d ps) (hsz : (DataW.weightsEach Tryz.prog ts ds).all (· ≤ reachBytes) = true) (hj : ts[j]? = some 23) (hd : ds[j]? = some d) :
    ∃ p : Sp, v = spV p := by
  obtain ⟨cs, rfl, -⟩ := okWide_struct Tryz.underlying23 hval
  obtain ⟨fuel, hf⟩ := h
  obtain ⟨p, e⟩ := tr_sp hf (WtB.of hsz hj hd)
  refine ⟨p, ?_⟩
  obtain ⟨l⟩ := cs
  simp only [Value.cells] at e
  have hl : l = spC p := by simpa using e
  rw [hl]
set_option maxRecDepth 100000 in
theorem open_tors (hval : Value.okWide Tryz.prog W r base 93 v) (h : DataW.Trod enc Tryz.prog W 0 (fun _ => true) true 93 v d ps) (hsz : (DataW.weightsEach Tryz.prog ts ds).all (· ≤ reachBytes) = true) (hj : ts[j]? = some 93) (hd : ds[j]? = some d) :
    ∃ ts' : List TT, SlX W v ts' ∧ ts'.length ≤ 140737488355328 ∧ ∀ t ∈ ts', ∀ l ∈ t.l, l.length ≤ 140737488355328 := by
  obtain ⟨a0, len, cap, rfl⟩ := okWide_slice Tryz.underlying93 hval
  obtain ⟨fuel, hf⟩ := h
  obtain ⟨v', e, ls, hS, hB, hQ, -⟩ := tr_rows (α := TT) (e := 38) (B := 96) Tryz.underlying93 ce_tor (by kernel_rfl) (Q := fun t => ∀ l ∈ t.l, l.length ≤ 140737488355328) (fun n cs y h hw => tr_tor h hw) hf (WtB.of hsz hj hd)
  simp [Value.cells] at e
  subst e
  exact ⟨ls, hS, by omega, hQ⟩
end
end Go.Proofs.Wk
/- WHAT THE LISTED VARIABLES GIVE A WALK; the last step of a law that returns true and leaves what was there as it was. -/
namespace Go.Proofs.Wk
open Go.RowKit Go.WideShapes Go.ChangeShapes

theorem lay_g10 : Tryz.prog.globalNamed "internal/strconv.uint64pow10" = some 6 := by kernel_rfl
theorem lay_g10t : (Tryz.prog.globals[6]?).map (·.type) = some 355 := by kernel_rfl
theorem lay_c20 : Tryz.prog.cellsOf 355 = 20 := by kernel_rfl
theorem lay_cu64 : Tryz.prog.cellsOf 336 = 1 := by kernel_rfl
theorem lay_ge : Tryz.prog.globalNamed "strconv.ErrRange" = some 5 := by kernel_rfl
theorem lay_get : (Tryz.prog.globals[5]?).map (·.type) = some 281 := by kernel_rfl
theorem lay_ce : Tryz.prog.cellsOf 361 = 1 := by kernel_rfl
theorem lay_cs : Tryz.prog.cellsOf 9 = 1 := by kernel_rfl
theorem lay_star : "*" ++ "errors.errorString" = "*errors.errorString" := by decide
theorem lay_row (u : TypeId) (h : Tryz.prog.typeName? 3 u = some "*errors.errorString") : u = 359 :=
  typeName_ptr_named (nm := "errors.errorString") (by rw [lay_star]; kernel_rfl) (by kernel_rfl) (by decide) u (by rw [lay_star]; exact h)

theorem good_of_laid {l : List (String × DataW Unit)} {text : List UInt8} {W : World} (h : laidMet Tryz.prog l W)
    (h1 : (l.filter fun x => x.1 == "internal/strconv.uint64pow10") = [("internal/strconv.uint64pow10", Lib.tabData .u64 Lib.pow10Tab)])
    (h2 : (l.filter fun x => x.1 == "strconv.ErrRange") = [("strconv.ErrRange", .iface "*errors.errorString" (.ptr (.agg [.lit (.string text)])))]) : Good W := by
  have a1 := h.filter fun x => x.1 == "internal/strconv.uint64pow10"
  have a2 := h.filter fun x => x.1 == "strconv.ErrRange"
  rw [h1] at a1
  rw [h2] at a2
  refine ⟨Lib.tabIs_of_head lay_g10 lay_g10t Tryz.underlying355 Tryz.underlying336 lay_cu64 lay_c20 a1, ?_⟩
  obtain ⟨a, s, hv, _⟩ := laid_sentinel a2 lay_ge lay_get Tryz.underlying281 lay_row Tryz.underlying359 Tryz.underlying361 rfl rfl Tryz.underlying9 lay_ce lay_cs
  exact ⟨_, _, hv⟩

section
variable {H : Type} {enc : TypeId × Value → H} {P : Program}
/-- Arguments that read as they did. -/
theorem below_trodAll (hl : laidOutB P = true) {W W' : World} (hb : Below W.heap.size W W') : ∀ {ts : List TypeId} {vs : List Value} {ds : List (DataW H)} {ps : List MemPlace},
    (ts.all fun t => P.readableRec t && decide (t < P.types.size)) = true → DataW.TrodAll enc P W 0 (fun _ => true) true ts vs ds ps → (∀ x ∈ ps, x.block < W.heap.size) →
    DataW.TrodAll enc P W' 0 (fun b => decide (b < W.heap.size)) true ts vs ds ps
  | [], vs, ds, ps, _, h, _ => by
    obtain ⟨rfl, rfl, rfl⟩ := trodAll_nil h
    exact trodAll_mk0
  | t :: ts, vs, ds, ps, hr, h, hlt => by
    obtain ⟨v, vs', d, ds', p, q, rfl, rfl, rfl, h0, h1⟩ := trodAll_cons h
    simp only [List.all_cons, Bool.and_eq_true, decide_eq_true_eq] at hr
    exact trodAll_cons_mk (Below.trod hl hr.1.1 hr.1.2 h0 hb fun x hx => hlt x (List.mem_append_left _ hx)) (below_trodAll hl hb hr.2 h1 fun x hx => hlt x (List.mem_append_right _ hx))

/-- A law's last step: it returned true, and what was there is as it was. -/
theorem law_post {f : Func} {s : ChangeSpec} {fresh handsOn : Bool} {W W' : World} {args : Array Value} {ds gs : List (DataW H)} {before : List MemPlace} {tb : TypeId}
    (hW : DataW.Whole enc P f.params.toList s.vars false W args.toList ds gs before) (hv : s.vars = [])
    (hs : s.fn H (ds ++ gs) = { results := [.lit (.bool true)], args := ds })
    (hr : f.resultTypes = #[tb]) (hub : P.underlying tb = some .bool) (hl : laidOutB P = true)
    (hp : (f.params.toList.all fun t => P.readableRec t && decide (t < P.types.size)) = true) (hb : Below W.heap.size W W') :
    s.post enc P f false fresh handsOn false W args (.bool true) W' := by
  have hlt : ∀ p ∈ before, p.block < W.heap.size := fun p hp => hW.lt p hp
  have hW' := hW
  obtain ⟨p, q, hA, hV, rfl, hz, hn⟩ := hW
  rw [hv] at hV
  obtain ⟨rfl, rfl⟩ := trodVars_none hV
  have hargs := below_trodAll hl hb hp hA fun x hx => hlt x (List.mem_append_left _ hx)
  have hres : ∀ (b : Nat) (sp : Nat → Bool) (hd : Bool), DataW.TrodAll enc P W' b sp hd f.resultTypes.toList ((Value.bool true).resultList f.resultTypes.size) [.lit (.bool true)] [] := by
    intro b sp hd
    rw [hr]
    exact trodAll_mk1 (shut_bool hub _)
  have hp2 : ∀ x ∈ p, x.block < W.heap.size := fun x hx => hlt x (List.mem_append_left _ hx)
  refine ⟨ds, [], p ++ [], [], p, [], hW', by rw [hs]; exact hres _ _ _, by rw [hs]; exact hargs, by rw [hs, hv]; rfl, World.keptBut_mono (fun x hx => ⟨hx, ?_⟩) (hb.frame (· ∈ p ++ [])), fun h => by cases h⟩
  exact Or.inr (List.mem_append.1 hx)
end
end Go.Proofs.Wk
