/- REGISTERS OF LOTS: the words of a text, counts, kinds. -/
import Derived.Test.YtmbbppiikpfkcaaGreatDoorVG
import Derived.Test.YtmbbppiikpfkcaaGreatDoorLA
import Derived.Shelf.Strings.SplitCore
import Derived.Shelf.Strconv.ErrVarAll
import Derived.Test.YtmbbppiikpfkcaaGreatDoorRhN
namespace Rg
/-- The number that strconv.Atoi hands back. -/
def numA (s : Txt) : Int := match Go.Lib.atoiAll s with | .ok v => v | .range => Go.Lib.atoiSat s | _ => 0
theorem reads_numA : Reads numA := by
  intro n h1 h2
  unfold numA; rw [Mt.atoi_itoa n (by omega) (by omega)]
end Rg
namespace Go.Proofs.Wk
open Go.RowKit Mt

/-- What the calls read of the library's variables, the error of what is no number too. -/
structure GoodS (w : World) : Prop where
  g : Good w
  syn : ∃ tp p, w.var? Tryz.prog "strconv.ErrSyntax" = some #[.iface tp p]
theorem g_syn : Tryz.prog.globalNamed "strconv.ErrSyntax" = some 6 := by kernel_rfl
theorem GoodS.later {w w' : World} (h : GoodS w) (hb : Below w.heap.size w w') : GoodS w' := by
  obtain ⟨h1, tp, p, h2⟩ := h
  exact ⟨h1.later hb, tp, p, var?_below hb g_syn (var_lt g_syn h2) h2⟩
def AtoiP (w : World) (v : Int) (e : Ending) (w' : World) : Prop := ∃ err, e = .returned (.tuple #[.int .i64 v, err]) ∧ Below w.heap.size w w'
theorem Atoi_any (l : Txt) (w : World) (hg : GoodS w) (hl : l.length ≤ 140737488355328) : Calls Tryz.prog 132 #[.string ⟨l.toArray⟩] w (AtoiP w (Rg.numA l)) := by
  cases h : Lib.atoiAll l
  · rename_i v
    rw [show Rg.numA l = v by unfold Rg.numA; rw [h]]
    exact (Atoi_ok l v w hl h).mono fun e w' q => ⟨_, q.1, q.2⟩
  · rw [show Rg.numA l = 0 by unfold Rg.numA; rw [h]]
    obtain ⟨-, tp, p, hv⟩ := hg
    refine Calls.mono (show Calls Tryz.prog 132 #[.string ⟨l.toArray⟩] w _ from Any.strconv_Atoi_syntax_var Tryz.laysC172 ⟨l.toArray⟩ (by rw [size_mk]; omega) h tp p w hv) ?_
    rintro e w' ⟨N, rfl, _, _, hb⟩
    exact ⟨_, rfl, hb⟩
  · rw [show Rg.numA l = Lib.atoiSat l by unfold Rg.numA; rw [h]]
    obtain ⟨⟨-, tp, p, hv⟩, -⟩ := hg
    refine (Tryz.strconv_Atoi_range_var ⟨l.toArray⟩ (by rw [size_mk]; omega) h tp p w hv).mono ?_
    rintro e w' ⟨N, rfl, _, _, hb⟩
    exact ⟨_, rfl, hb⟩
/-- A row of texts, known whole. -/
def TxR (w : World) (g : Nat) (ws : List Txt) : Prop := w.heap[g]? = some (.cells (ws.map fun l => Value.string ⟨l.toArray⟩).toArray 9 (0, 0))
theorem TxR.lt {w : World} {g : Nat} {ws : List Txt} (h : TxR w g ws) : g < w.heap.size := (Array.getElem?_eq_some_iff.1 h).1
theorem TxR.cell {w : World} {g : Nat} {ws : List Txt} (h : TxR w g ws) {j : Nat} (hj : j < ws.length) : w.cell? ⟨g, j, none⟩ = some (.string ⟨(ws[j]).toArray⟩) := by
  rw [cell_of_row w g j _ _ _ h]; simp [hj]
theorem TxR.later {w w' : World} {g : Nat} {ws : List Txt} (h : TxR w g ws) (hb : Below w.heap.size w w') : TxR w' g ws := by unfold TxR; rw [hb.block g h.lt]; exact h
def SplitP (w : World) (s : Txt) (e : Ending) (w' : World) : Prop :=
  e = .returned (.slice (some ⟨w.heap.size, 0, none⟩) (Rg.sp s).length (Rg.sp s).length) ∧ TxR w' w.heap.size (Rg.sp s) ∧ Below w.heap.size w w'
/-- The same with the words and their number under names. -/
def SplitN (w : World) (n : Nat) (ls : List Txt) (e : Ending) (w' : World) : Prop := e = .returned (.slice (some ⟨w.heap.size, 0, none⟩) n n) ∧ TxR w' w.heap.size ls ∧ Below w.heap.size w w'
theorem SplitP.named {w : World} {s : Txt} {n : Nat} {ls : List Txt} (h1 : Rg.sp s = ls) (h2 : ls.length = n) {e : Ending} {w' : World} (h : SplitP w s e w') : SplitN w n ls e w' := by
  subst h1; subst h2; exact h
theorem index_b (x : ByteArray) (c : UInt8) : Lib.indexByte x.data.toList c = Lib.indexB x ⟨#[c]⟩ := by
  unfold Lib.indexB
  exact (Rg.index_one _ _).symm
theorem count_b (x : ByteArray) (c : UInt8) : Lib.countByte x.data.toList c = Lib.countB x ⟨#[c]⟩ := by
  unfold Lib.countB
  exact (Rg.count_one _ _ _ (Nat.le_refl _)).symm
theorem genSplit_c (s : Txt) (w : World) (hs : s.length ≤ 4096) : Calls Tryz.prog 156 #[.string ⟨s.toArray⟩, .string ⟨#[32]⟩, .int .i64 0, .int .i64 (-1)] w (SplitP w s) := by
  have hcl : Lib.countByte s 32 ≤ s.length := List.count_le_length
  have hcb : Lib.countB ⟨s.toArray⟩ ⟨#[32]⟩ = Lib.countByte s 32 := (count_b ⟨s.toArray⟩ 32).symm
  have := Any.strings_genSplit_core Tryz.lays221 (by kernel_rfl) ⟨s.toArray⟩ ⟨#[32]⟩ 0 (-1) (Lib.countByte s 32 + 1) w (by rw [size_mk]; omega) (by decide) (by decide)
    (fun x c _ => by have h := Tryz.strings_Index_one x 32 (w.alloc (.cells c 9)); rw [index_b] at h; exact h)
    (by have h := Tryz.strings_Count_one ⟨s.toArray⟩ 32 w; rw [count_b] at h; exact h) (by decide) (by decide)
    (by rw [hcb, size_mk, if_pos (by decide)]; omega)
  refine Calls.mono (show Calls Tryz.prog 156 #[.string ⟨s.toArray⟩, .string ⟨#[32]⟩, .int .i64 0, .int .i64 (-1)] w _ from this) ?_
  rintro e w' ⟨rfl, rfl⟩
  have hsp : (Lib.splitB ⟨#[32]⟩ 0 (Lib.countByte s 32 + 1 - 1) ⟨s.toArray⟩).map (·.data.toList) = Rg.sp s := by
    rw [Lib.splitB_data, Nat.add_sub_cancel]
    exact Rg.split_sp _ s (Nat.le_refl _)
  have hlen : (Lib.splitB ⟨#[32]⟩ 0 (Lib.countByte s 32 + 1 - 1) ⟨s.toArray⟩).length = (Rg.sp s).length := by rw [← hsp, List.length_map]
  have hl2 := Rg.sp_len s
  refine ⟨?_, ?_, (Below.refl _ _).alloc (Nat.le_refl _) _⟩
  · rw [hlen, hl2]
  · unfold TxR
    rw [heap_alloc_new]
    have e1 : (Lib.cellsOf (Lib.splitB ⟨#[32]⟩ 0 (Lib.countByte s 32 + 1 - 1) ⟨s.toArray⟩) (Lib.countByte s 32 + 1)) = ((Rg.sp s).map fun l => Value.string ⟨l.toArray⟩).toArray := by
      unfold Lib.cellsOf
      rw [hlen, hl2, Nat.sub_self, List.replicate_zero, List.append_nil, ← hsp, List.map_map]
      congr 1
    rw [e1]
    rfl
set_option maxRecDepth 100000 in
theorem Split2_c (s : Txt) (w : World) (hs : s.length ≤ 4096) : Calls Tryz.prog 129 #[.string ⟨s.toArray⟩, .string ⟨#[32]⟩] w (SplitP w s) := by
  have H := Lib.hid (genSplit_c s w hs)
  go_enter Tryz.func129, Tryz.ntmps129
  go_wp2_with fail
  ((with_reducible refine (H.out).mono ?_); rintro e w1 ⟨rfl, ht, hb⟩)
  go_wp2
  go_ret
  exact ⟨rfl, ht, hb⟩
end Go.Proofs.Wk
/- REGISTERS OF LOTS: the kind of a word, among the rows. -/
namespace Rg
theorem kind_at {w : Txt} {i : Nat} (hi : i < 7) (h : wordK (i : Int) = w) : kindW w = (i : Int) := by
  subst h; exact kind_word (by omega) (by omega)
theorem kind_none {w : Txt} (h : ∀ j : Nat, j < 7 → wordK (j : Int) ≠ w) : kindW w = -1 := by
  have h0 : ([111, 112, 101, 110] : Txt) ≠ w := h 0 (by decide)
  have h1 : ([112, 97, 115, 115] : Txt) ≠ w := h 1 (by decide)
  have h2 : ([114, 101, 106, 101, 99, 116] : Txt) ≠ w := h 2 (by decide)
  have h3 : ([99, 111, 110, 99, 101, 100, 101] : Txt) ≠ w := h 3 (by decide)
  have h4 : ([115, 99, 114, 97, 112] : Txt) ≠ w := h 4 (by decide)
  have h5 : ([99, 108, 111, 115, 101] : Txt) ≠ w := h 5 (by decide)
  have h6 : ([115, 104, 105, 112] : Txt) ≠ w := h 6 (by decide)
  unfold kindW words
  unfold kindF; rw [if_neg h0]
  unfold kindF; rw [if_neg h1]
  unfold kindF; rw [if_neg h2]
  unfold kindF; rw [if_neg h3]
  unfold kindF; rw [if_neg h4]
  unfold kindF; rw [if_neg h5]
  unfold kindF; rw [if_neg h6]
  rfl
end Rg
namespace Go.Proofs.Wk
open Go.RowKit Mt

set_option maxRecDepth 100000 in
theorem read1_c (wd w0 : Txt) (ws : List Txt) (pl : Bool) (fv : Value) (tb g n : Nat) (w : World) (hc : w.cell? ⟨tb, 0, none⟩ = some (.slice (some ⟨g, 0, none⟩) n n)) (ht : TxR w g (w0 :: ws)) (hn : 0 < n) :
    Calls Tryz.prog 131 #[.agg #[.string ⟨wd.toArray⟩, .bool pl, fv], .pointer (some ⟨tb, 0, none⟩)] w (Ret w (.bool (wd == w0))) := by
  have hB : Below w.heap.size w (w.alloc (.cells #[.string ⟨wd.toArray⟩, .bool pl, fv] 99)) := (Below.refl _ _).alloc (Nat.le_refl _) _
  have c1 := hc
  rw [← hB.cell (p := ⟨tb, 0, none⟩) (World.block_lt_of_cell? w _ hc)] at c1
  have c2 := (ht.later hB).cell (j := 0) (by simp)
  simp only [List.getElem_cons_zero] at c2
  clear hc ht
  go_enter Tryz.func131, Tryz.ntmps131
  go_wp2_with fail
  go_quiet (fail)
  go_wp2
  go_ret
  exact ⟨rfl, below_dN hB _⟩
/-- The functions of the rows. -/
def rowFn : Nat → Value
  | 1 => .func (.func 72) #[] #[]
  | 2 => .func (.func 74) #[] #[]
  | 3 => .func (.func 75) #[] #[]
  | 4 => .func (.func 77) #[] #[]
  | 5 => .func (.func 78) #[] #[]
  | 6 => .func (.func 81) #[] #[]
  | _ => .nilFunc
def RowsAt (w : World) (b : Nat) : Prop := ∀ i, i < 7 → w.cell? ⟨b, i * 3, none⟩ = some (.string ⟨(Rg.wordK (i : Int)).toArray⟩) ∧ w.cell? ⟨b, i * 3 + 1, none⟩ = some (.bool (decide (5 ≤ i))) ∧ w.cell? ⟨b, i * 3 + 2, none⟩ = some (rowFn i)
theorem RowsAt.later {w w' : World} {b : Nat} (h : RowsAt w b) (hb : Below w.heap.size w w') : RowsAt w' b := fun i hi => by
  obtain ⟨a, c, d⟩ := h i hi
  have hlt : b < w.heap.size := World.block_lt_of_cell? w _ a
  exact ⟨by rw [hb.cell (p := ⟨b, i * 3, none⟩) hlt]; exact a, by rw [hb.cell (p := ⟨b, i * 3 + 1, none⟩) hlt]; exact c, by rw [hb.cell (p := ⟨b, i * 3 + 2, none⟩) hlt]; exact d⟩
set_option maxRecDepth 100000 in
set_option maxHeartbeats 1000000 in
theorem ixR_c (b tb g n : Nat) (w0 : Txt) (ws : List Txt) (w : World) (hr : RowsAt w b) (hc : w.cell? ⟨tb, 0, none⟩ = some (.slice (some ⟨g, 0, none⟩) n n)) (ht : TxR w g (w0 :: ws)) (hn : 0 < n) :
    Calls Tryz.prog 130 #[.slice (some ⟨b, 0, none⟩) 7 7, .func (.func 131) #[] #[.pointer (some ⟨tb, 0, none⟩)]] w (Ret w (.int .i64 (Rg.kindW w0))) := by
  have HF := Lib.hid (fun W (hb : Below w.heap.size w W) wd pl fv => read1_c wd w0 ws pl fv tb g n W (by rw [hb.cell (p := ⟨tb, 0, none⟩) (World.block_lt_of_cell? w _ hc)]; exact hc) (ht.later hb) hn)
  have HR := Lib.hid hr
  have hyes := fun (i : Nat) (hi : i < 7) (h : Rg.wordK (i : Int) = w0) => Rg.kind_at hi h
  have hno := fun (h : ∀ j : Nat, j < 7 → Rg.wordK (j : Int) ≠ w0) => Rg.kind_none h
  have HY := Lib.hid hyes
  have HNO := Lib.hid hno
  generalize Rg.kindW w0 = K at *
  clear hr hc ht hyes hno
  go_enter Tryz.func130, Tryz.ntmps130
  go_wp2_with fail
  go_loopw [8] (fun si wr => ∃ i : Nat, si = .int .i64 (i : Int) ∧ i ≤ 7 ∧ Hid (∀ j : Nat, j < i → Rg.wordK (j : Int) ≠ w0) ∧ Below w.heap.size w wr) (fun si _ => 7 - (intOf si).toNat)
  case atStart => exact ⟨0, rfl, Nat.zero_le _, fun j q => absurd q (Nat.not_lt_zero _), Below.refl _ _⟩
  case round =>
    obtain ⟨i, rfl, hi, hE, hB⟩ := hrel
    by_cases hlt : i < 7
    · obtain ⟨k0, k1, k2⟩ := HR.out.later hB i hlt
      have HFI := HF.out wr hB (Rg.wordK (i : Int)) (decide (5 ≤ i)) (rowFn i)
      have hy := HY.out i hlt
      have HN := Lib.hid (fun (e : Rg.wordK (i : Int) ≠ w0) j (q : j < i + 1) => show Rg.wordK (j : Int) ≠ w0 from by
        by_cases z : j = i
        · subst z; exact e
        · exact hE.out j (by omega))
      clear hE HY HNO
      generalize Rg.wordK (i : Int) = wd at *
      generalize decide (5 ≤ i) = pl at *
      generalize rowFn i = fv at *
      by_cases h : wd = w0
      · obtain rfl : K = (i : Int) := hy h
        rw [beq_iff_eq.2 h] at HFI
        have HFH := Lib.hid HFI
        clear HN h hy HFI
        go_wp2_with fail
        ((with_reducible refine (HFH.out).mono ?_); rintro e w2 ⟨rfl, hb2⟩)
        have hB2 := hB.trans (hb2.mono hB.size)
        go_wp2
        go_ret
        exact ⟨rfl, hB2⟩
      · have hL := Lib.hid (HN.out h)
        rw [beq_eq_false_iff_ne.2 h] at HFI
        have HFH := Lib.hid HFI
        clear HN h hy HFI
        go_wp2_with fail
        ((with_reducible refine (HFH.out).mono ?_); rintro e w2 ⟨rfl, hb2⟩)
        have hB2 := hB.trans (hb2.mono hB.size)
        go_wp2
        go_roundw
        case rel => exact ⟨i + 1, by go_num, by omega, hL, hB2⟩
        case measure => simp [intOf]; omega
    · obtain rfl : i = 7 := by omega
      obtain rfl : K = -1 := HNO.out hE.out
      clear hE HY HNO
      go_wp2
      go_ret
      exact ⟨rfl, hB⟩
end Go.Proofs.Wk
/- REGISTERS OF LOTS: Read: the entry that a text makes. -/
namespace Rg
theorem sp_word_len : ∀ (s : Txt), ∀ w ∈ sp s, w.length ≤ s.length
  | [], w, h => by simp [sp] at h; simp [h]
  | c :: cs, w, h => by
    have ih := sp_word_len cs
    unfold sp at h
    split at h
    · rcases List.mem_cons.1 h with rfl | h
      · simp
      · have := ih w h; simp only [List.length_cons]; omega
    · cases q : sp cs with
      | nil => exact absurd q (sp_ne cs)
      | cons v vs =>
        rw [q] at h ih
        simp only at h
        rcases List.mem_cons.1 h with rfl | h
        · have := ih v (by simp); simp only [List.length_cons]; omega
        · have := ih w (List.mem_cons_of_mem _ h); simp only [List.length_cons]; omega
theorem kindF_le (w : Txt) : ∀ (l : List Txt) (i : Nat), -1 ≤ kindF w l i ∧ kindF w l i < (i : Int) + l.length
  | [], i => by simp [kindF]; omega
  | v :: vs, i => by
    have := kindF_le w vs (i + 1)
    unfold kindF
    simp only [List.length_cons]
    split <;> omega
theorem kindW_le (w : Txt) : -1 ≤ kindW w ∧ kindW w ≤ 6 := by
  have := kindF_le w words 0
  unfold kindW
  have h : words.length = 7 := rfl
  omega
end Rg
namespace Go.Proofs.Wk
open Go.RowKit Mt

def ReadP (w : World) (r : Rg.En × Int) (e : Ending) (w' : World) : Prop := e = .returned (.tuple #[entV r.1, .int .i64 r.2]) ∧ Below w.heap.size w w'
theorem put3 {w : World} {g : Nat} {u0 u1 u2 v0 v1 v2 : Value} {T : TypeId} (h : w.heap[g]? = some (.cells #[u0, u1, u2] T (0, 0))) :
    (((w.setCell ⟨g, 0, none⟩ v0).setCell ⟨g, 1, none⟩ v1).setCell ⟨g, 2, none⟩ v2).heap[g]? = some (.cells #[v0, v1, v2] T (0, 0)) := by
  have h0 : (w.setCell ⟨g, 0, none⟩ v0).heap[g]? = some (.cells #[v0, u1, u2] T (0, 0)) := heap_setCell_same w g 0 _ _ v0 h
  generalize w.setCell ⟨g, 0, none⟩ v0 = w at *
  have h1 : (w.setCell ⟨g, 1, none⟩ v1).heap[g]? = some (.cells #[v0, v1, u2] T (0, 0)) := heap_setCell_same w g 1 _ _ v1 h0
  generalize w.setCell ⟨g, 1, none⟩ v1 = w at *
  exact heap_setCell_same w g 2 _ _ v2 h1
theorem put3b {a w : World} {B g : Nat} {v0 v1 v2 : Value} (h : Below B a w) (hg : B ≤ g) : Below B a (((w.setCell ⟨g, 0, none⟩ v0).setCell ⟨g, 1, none⟩ v1).setCell ⟨g, 2, none⟩ v2) :=
  Below.cellP (Below.cellP (Below.cellP h hg _) hg _) hg _
/-- The result's block, the words, and what was there before. -/
structure RdP (T : TypeId) (w0 : World) (tb g n : Nat) (ws : List Txt) (w : World) : Prop where
  r : w.heap[w0.heap.size]? = some (.cells #[.int .i64 0, .string ⟨#[]⟩, .int .i64 0] T (0, 0))
  c : w.cell? ⟨tb, 0, none⟩ = some (.slice (some ⟨g, 0, none⟩) n n)
  t : TxR w g ws
  w : Below w0.heap.size w0 w
theorem RdP.later {T : TypeId} {w0 w w' : World} {tb g n : Nat} {ws : List Txt} (j : RdP T w0 tb g n ws w) (hb : Below w.heap.size w w') : RdP T w0 tb g n ws w' :=
  ⟨by rw [hb.block _ (Array.getElem?_eq_some_iff.1 j.r).1]; exact j.r, by rw [hb.cell (p := ⟨tb, 0, none⟩) (World.block_lt_of_cell? w _ j.c)]; exact j.c, j.t.later hb, j.w.trans (hb.mono j.w.size)⟩
/-- The result's block, the entry's block, and what was there before. -/
structure RdE (T : TypeId) (w0 : World) (b : Nat) (e : Array Value) (w : World) : Prop where
  r : w.heap[w0.heap.size]? = some (.cells #[.int .i64 0, .string ⟨#[]⟩, .int .i64 0] T (0, 0))
  x : w.heap[b]? = some (.cells e T (0, 0))
  w : Below w0.heap.size w0 w
  l : w0.heap.size < b
theorem RdE.later {T : TypeId} {w0 w w' : World} {b : Nat} {e : Array Value} (j : RdE T w0 b e w) (hb : Below w.heap.size w w') : RdE T w0 b e w' :=
  ⟨by rw [hb.block _ (Array.getElem?_eq_some_iff.1 j.r).1]; exact j.r, by rw [hb.block _ (Array.getElem?_eq_some_iff.1 j.x).1]; exact j.x, j.w.trans (hb.mono j.w.size), j.l⟩
theorem RdE.set {T : TypeId} {w0 w : World} {b : Nat} {e e' : Array Value} (j : RdE T w0 b e w) (i : Nat) (v : Value) (he : e.setIfInBounds i v = e') : RdE T w0 b e' (w.setCell ⟨b, i, none⟩ v) := by
  subst he
  exact ⟨by rw [heap_setCell_other w ⟨b, i, none⟩ _ v (by have := j.l; simp; omega)]; exact j.r, heap_setCell_same w b i _ _ v j.x, Below.cellP j.w (Nat.le_of_lt j.l) _, j.l⟩
theorem RdP.entry {T : TypeId} {w0 w : World} {tb g n : Nat} {ws : List Txt} (j : RdP T w0 tb g n ws w) (e : Array Value) : RdE T w0 w.heap.size e (w.alloc (.cells e T)) :=
  have h := j.later ((Below.refl _ _).alloc (Nat.le_refl _) (.cells e T))
  ⟨h.r, heap_alloc_new _ _, h.w, (Array.getElem?_eq_some_iff.1 j.r).1⟩
theorem rows_at (w : World) : RowsAt (w.alloc (.cells rowsC 100)) w.heap.size := fun i hi => by
  have h := heap_alloc_new w (.cells rowsC 100)
  rw [cell_of_row _ _ _ _ _ _ h, cell_of_row _ _ _ _ _ _ h, cell_of_row _ _ _ _ _ _ h]
  match i, hi with
  | 0, _ => exact ⟨rfl, rfl, rfl⟩
  | 1, _ => exact ⟨rfl, rfl, rfl⟩
  | 2, _ => exact ⟨rfl, rfl, rfl⟩
  | 3, _ => exact ⟨rfl, rfl, rfl⟩
  | 4, _ => exact ⟨rfl, rfl, rfl⟩
  | 5, _ => exact ⟨rfl, rfl, rfl⟩
  | 6, _ => exact ⟨rfl, rfl, rfl⟩
set_option maxRecDepth 100000 in
set_option maxHeartbeats 2000000 in
theorem read_long (s : Txt) (w : World) (hl : s.length ≤ 140737488355328) (h4 : 4096 < s.length) : Calls Tryz.prog 88 #[.string ⟨s.toArray⟩] w (ReadP w (⟨0, [], 0⟩, 17)) := by
  have J := BX.new w #[.int .i64 0, .string ⟨#[]⟩, .int .i64 0] 28
  have hfz : ∀ j, (w.alloc (.cells #[.int .i64 0, .string ⟨#[]⟩, .int .i64 0] 28)).frozen? ⟨w.heap.size, j, none⟩ = false := fun j => frozen_of_row _ _ _ _ _ J.c
  obtain ⟨d0, d1, d2⟩ := cell3 J.c
  have hd := hfz 0; have hd1 := hfz 1; have hd2 := hfz 2
  have hJ := Lib.hid J
  clear hfz J
  have h4i : (4096 : Int) < (s.length : Int) := by omega
  go_enter Tryz.func88, Tryz.ntmps88
  go_wp2
  refine bodyPost_ret (results_cell_row_tmp rfl _ _ w.heap.size 28 _ _ _ (by kernel_rfl) hJ.out.c Tryz.underlying28 rfl (by kernel_rfl)) rfl ?_
  exact ⟨rfl, hJ.out.w⟩
set_option maxRecDepth 100000 in
set_option maxHeartbeats 4000000 in
theorem read_m1 (s : Txt) (w : World) (hg : GoodS w) (h4 : s.length ≤ 4096) (w0 : Txt) (hws : Rg.sp s = w0 :: []) : Calls Tryz.prog 88 #[.string ⟨s.toArray⟩] w (ReadP w (Rg.readL Rg.numA s)) := by
  have hE : Rg.readL Rg.numA s = if (Rg.textL ⟨Rg.kindW w0, [], 0⟩).2 = 0 ∧ (Rg.textL ⟨Rg.kindW w0, [], 0⟩).1 = s then (⟨Rg.kindW w0, [], 0⟩, 0) else (⟨0, [], 0⟩, 4) := by
    unfold Rg.readL; rw [if_neg (by omega), hws]; rfl
  have hlen := Rg.sp_word_len s
  rw [hws] at hlen
  obtain ⟨n, hn⟩ : ∃ n, (w0 :: []).length = n := ⟨_, rfl⟩
  have HS := Lib.hid (fun W => (Split2_c s W h4).mono fun e w' q => SplitP.named hws hn q)
  have HR := Lib.hid (fun W => rows_c W)
  have HG := Lib.hid hg
  have HX := Lib.hid (fun b tb g n W hr hc ht hn => ixR_c b tb g n w0 [] W hr hc ht hn)
  have J := BX.new w #[.int .i64 0, .string ⟨#[]⟩, .int .i64 0] 28
  have HJ := Lib.hid J
  simp only [List.length_cons, List.length_nil] at hn
  have q1 : ¬ (1 : Int) < (n : Int) := by omega
  have q2 : ¬ (2 : Int) < (n : Int) := by omega
  have HT := Lib.hid (fun W (hW : GoodS W) => Text_c ⟨Rg.kindW w0, [], 0⟩ W hW.g (Nat.zero_le _))
  generalize Rg.readL Rg.numA s = R at *
  generalize Rg.textL ⟨Rg.kindW w0, [], 0⟩ = T at *
  obtain ⟨tt, tc⟩ := T
  simp only at hE
  have HE := Lib.hid hE
  have h4i : ¬ (4096 : Int) < (s.length : Int) := by omega
  generalize Rg.kindW w0 = K at *
  have hn0 : 0 < n := by omega
  clear hws J hg hE hlen hn h4
  go_enter Tryz.func88, Tryz.ntmps88
  go_upto_region 3 with fail
  go_wp2_with fail
  ((with_reducible refine (HS.out _).mono ?_); rintro e w1 ⟨rfl, ht1, hb1⟩)
  have J1 := HJ.out.later hb1
  generalize (w.alloc (.cells #[.int .i64 0, .string ⟨#[]⟩, .int .i64 0] 28)).heap.size = g at *
  have p1 : RdP 28 w w1.heap.size g n (w0 :: []) (w1.alloc (.cells #[.slice (some ⟨g, 0, none⟩) n n] 177)) := by
    have hb : Below w1.heap.size w1 (w1.alloc (.cells #[.slice (some ⟨g, 0, none⟩) n n] 177)) := (Below.refl _ _).alloc (Nat.le_refl _) _
    exact ⟨(J1.later hb).c, by rw [cell_of_row _ _ _ _ _ _ (heap_alloc_new w1 _)]; rfl, ht1.later hb, (J1.later hb).w⟩
  have P1 := Lib.hid p1
  clear p1 J1 ht1 hb1 HJ HS
  go_upto_region 4 with fail
  rename_i K0 hK0
  refine wp_region_lit ?_
  refine wpList_plain rfl fun K hK => ?_
  go_simp
  ((with_reducible refine (HR.out _).mono ?_); rintro e w2 ⟨rfl, hb2⟩)
  refine hK _ _ ?_; clear hK; clear K
  refine wpList_plain rfl fun K hK => ?_
  go_simp
  refine hK _ _ ?_; clear hK; clear K
  refine wpList_store_row rfl 100 (.tmp 5) (.tmp 15) rfl w2.heap.size rowsC rfl (by kernel_rfl) 100 rowsZ (heap_alloc_new w2 _) (by kernel_rfl) rfl (by kernel_rfl) ?_
  rw [World.setRow_alloc_new]
  refine wpList_nil ?_
  refine hK0 _ _ ?_
  have P4 := Lib.hid ((P1.out.later hb2).later ((Below.refl _ _).alloc (Nat.le_refl _) (.cells rowsC 100)))
  have R4 := Lib.hid (rows_at w2)
  clear P1 hb2 HR hK0
  generalize w2.alloc (.cells rowsC 100) = W4 at *
  generalize w2.heap.size = rb at *
  generalize w1.heap.size = tb at *
  have HX4 := Lib.hid (HX.out rb tb g n W4 R4.out P4.out.c P4.out.t hn0)
  clear HX R4
  go_wp2_with fail
  ((with_reducible refine HX4.out.mono ?_); rintro e w3 ⟨rfl, hb3⟩)
  have p3 := P4.out.later hb3
  have P3 := Lib.hid p3
  clear P4 hb3 HX4
  have f1 : ∀ o, (w3.alloc o).cell? ⟨tb, 0, none⟩ = some (.slice (some ⟨g, 0, none⟩) n n) := fun o => (World.cell?_alloc_lt w3 o ⟨tb, 0, none⟩ (World.block_lt_of_cell? w3 _ p3.c)).trans p3.c

  clear p3
  have HJ5 := Lib.hid (P3.out.entry #[.int .i64 K, .string ⟨#[]⟩, .int .i64 0])
  have HG5 := Lib.hid (HG.out.later HJ5.out.w)
  go_wp2_with fail
  ((with_reducible refine (HT.out _ HG5.out).mono ?_); rintro e w5 ⟨rfl, hb5⟩)
  have J5 := HJ5.out.later hb5
  obtain ⟨d0, d1, d2⟩ := cell3 J5.x
  obtain ⟨r0, r1, r2⟩ := cell3 J5.r
  have z0 := frozen_of_row w5 w.heap.size 0 _ _ J5.r
  have z1 := frozen_of_row w5 w.heap.size 1 _ _ J5.r
  have z2 := frozen_of_row w5 w.heap.size 2 _ _ J5.r
  have HJ6 := Lib.hid J5
  clear J5 HJ5 hb5 HG5 HT HG P3
  by_cases hc : tc = 0
  · subst hc
    by_cases ht : tt = s
    · have hR := HE.out
      rw [if_pos ⟨rfl, ht⟩] at hR
      have y1 : (tt == s) = true := beq_iff_eq.2 ht
      have y2 : (tt != s) = false := by rw [bne, y1]; rfl
      have HRR := Lib.hid hR
      clear HE hR ht
      go_wp2
      rw [HRR.out]
      refine bodyPost_ret (results_cell_row_tmp rfl _ _ w.heap.size 28 _ _ _ (by kernel_rfl) (put3 HJ6.out.r) Tryz.underlying28 rfl (by kernel_rfl)) rfl ?_
      exact ⟨rfl, put3b HJ6.out.w (Nat.le_refl _)⟩
    · have hR := HE.out
      rw [if_neg (fun q => ht q.2)] at hR
      have y1 : (tt == s) = false := beq_eq_false_iff_ne.2 ht
      have y2 : (tt != s) = true := by rw [bne, y1]; rfl
      have HRR := Lib.hid hR
      clear HE hR ht
      go_wp2
      rw [HRR.out]
      refine bodyPost_ret (results_cell_row_tmp rfl _ _ w.heap.size 28 _ _ _ (by kernel_rfl) (put3 HJ6.out.r) Tryz.underlying28 rfl (by kernel_rfl)) rfl ?_
      exact ⟨rfl, put3b HJ6.out.w (Nat.le_refl _)⟩
  · have hR := HE.out
    rw [if_neg (fun q => hc q.1)] at hR
    have y1 : (tc != 0) = true := bne_iff_ne.2 hc
    have HRR := Lib.hid hR
    clear HE hR hc
    go_wp2
    rw [HRR.out]
    refine bodyPost_ret (results_cell_row_tmp rfl _ _ w.heap.size 28 _ _ _ (by kernel_rfl) (put3 HJ6.out.r) Tryz.underlying28 rfl (by kernel_rfl)) rfl ?_
    exact ⟨rfl, put3b HJ6.out.w (Nat.le_refl _)⟩

set_option maxRecDepth 100000 in
set_option maxHeartbeats 4000000 in
theorem read_m2 (s : Txt) (w : World) (hg : GoodS w) (h4 : s.length ≤ 4096) (w0 : Txt) (l : Txt) (hws : Rg.sp s = w0 :: [l]) : Calls Tryz.prog 88 #[.string ⟨s.toArray⟩] w (ReadP w (Rg.readL Rg.numA s)) := by
  have hE : Rg.readL Rg.numA s = if (Rg.textL ⟨Rg.kindW w0, l, 0⟩).2 = 0 ∧ (Rg.textL ⟨Rg.kindW w0, l, 0⟩).1 = s then (⟨Rg.kindW w0, l, 0⟩, 0) else (⟨0, [], 0⟩, 4) := by
    unfold Rg.readL; rw [if_neg (by omega), hws]; rfl
  have hlen := Rg.sp_word_len s
  rw [hws] at hlen
  obtain ⟨n, hn⟩ : ∃ n, (w0 :: [l]).length = n := ⟨_, rfl⟩
  have HS := Lib.hid (fun W => (Split2_c s W h4).mono fun e w' q => SplitP.named hws hn q)
  have HR := Lib.hid (fun W => rows_c W)
  have HG := Lib.hid hg
  have HX := Lib.hid (fun b tb g n W hr hc ht hn => ixR_c b tb g n w0 [l] W hr hc ht hn)
  have J := BX.new w #[.int .i64 0, .string ⟨#[]⟩, .int .i64 0] 28
  have HJ := Lib.hid J
  simp only [List.length_cons, List.length_nil] at hn
  have hl := hlen l (by simp)
  have q1 : (1 : Int) < (n : Int) := by omega
  have q2 : ¬ (2 : Int) < (n : Int) := by omega
  have q3 : 1 < n := by omega
  have HT := Lib.hid (fun W (hW : GoodS W) => Text_c ⟨Rg.kindW w0, l, 0⟩ W hW.g (show l.length ≤ 140737488355328 by omega))
  generalize Rg.readL Rg.numA s = R at *
  generalize Rg.textL ⟨Rg.kindW w0, l, 0⟩ = T at *
  obtain ⟨tt, tc⟩ := T
  simp only at hE
  have HE := Lib.hid hE
  have h4i : ¬ (4096 : Int) < (s.length : Int) := by omega
  generalize Rg.kindW w0 = K at *
  have hn0 : 0 < n := by omega
  clear hws J hg hE hlen hn h4
  go_enter Tryz.func88, Tryz.ntmps88
  go_upto_region 3 with fail
  go_wp2_with fail
  ((with_reducible refine (HS.out _).mono ?_); rintro e w1 ⟨rfl, ht1, hb1⟩)
  have J1 := HJ.out.later hb1
  generalize (w.alloc (.cells #[.int .i64 0, .string ⟨#[]⟩, .int .i64 0] 28)).heap.size = g at *
  have p1 : RdP 28 w w1.heap.size g n (w0 :: [l]) (w1.alloc (.cells #[.slice (some ⟨g, 0, none⟩) n n] 177)) := by
    have hb : Below w1.heap.size w1 (w1.alloc (.cells #[.slice (some ⟨g, 0, none⟩) n n] 177)) := (Below.refl _ _).alloc (Nat.le_refl _) _
    exact ⟨(J1.later hb).c, by rw [cell_of_row _ _ _ _ _ _ (heap_alloc_new w1 _)]; rfl, ht1.later hb, (J1.later hb).w⟩
  have P1 := Lib.hid p1
  clear p1 J1 ht1 hb1 HJ HS
  go_upto_region 4 with fail
  rename_i K0 hK0
  refine wp_region_lit ?_
  refine wpList_plain rfl fun K hK => ?_
  go_simp
  ((with_reducible refine (HR.out _).mono ?_); rintro e w2 ⟨rfl, hb2⟩)
  refine hK _ _ ?_; clear hK; clear K
  refine wpList_plain rfl fun K hK => ?_
  go_simp
  refine hK _ _ ?_; clear hK; clear K
  refine wpList_store_row rfl 100 (.tmp 5) (.tmp 15) rfl w2.heap.size rowsC rfl (by kernel_rfl) 100 rowsZ (heap_alloc_new w2 _) (by kernel_rfl) rfl (by kernel_rfl) ?_
  rw [World.setRow_alloc_new]
  refine wpList_nil ?_
  refine hK0 _ _ ?_
  have P4 := Lib.hid ((P1.out.later hb2).later ((Below.refl _ _).alloc (Nat.le_refl _) (.cells rowsC 100)))
  have R4 := Lib.hid (rows_at w2)
  clear P1 hb2 HR hK0
  generalize w2.alloc (.cells rowsC 100) = W4 at *
  generalize w2.heap.size = rb at *
  generalize w1.heap.size = tb at *
  have HX4 := Lib.hid (HX.out rb tb g n W4 R4.out P4.out.c P4.out.t hn0)
  clear HX R4
  go_wp2_with fail
  ((with_reducible refine HX4.out.mono ?_); rintro e w3 ⟨rfl, hb3⟩)
  have p3 := P4.out.later hb3
  have P3 := Lib.hid p3
  clear P4 hb3 HX4
  have f1 : ∀ o, (w3.alloc o).cell? ⟨tb, 0, none⟩ = some (.slice (some ⟨g, 0, none⟩) n n) := fun o => (World.cell?_alloc_lt w3 o ⟨tb, 0, none⟩ (World.block_lt_of_cell? w3 _ p3.c)).trans p3.c
  have f2 : ∀ o, (w3.alloc o).cell? ⟨g, 1, none⟩ = some (.string ⟨l.toArray⟩) := fun o => (World.cell?_alloc_lt w3 o ⟨g, 1, none⟩ p3.t.lt).trans (p3.t.cell (j := 1) (by simp))
  clear p3
  have HJ5 := Lib.hid (P3.out.entry #[.int .i64 K, .string ⟨l.toArray⟩, .int .i64 0])
  have HG5 := Lib.hid (HG.out.later HJ5.out.w)
  go_wp2_with fail
  ((with_reducible refine (HT.out _ HG5.out).mono ?_); rintro e w5 ⟨rfl, hb5⟩)
  have J5 := HJ5.out.later hb5
  obtain ⟨d0, d1, d2⟩ := cell3 J5.x
  obtain ⟨r0, r1, r2⟩ := cell3 J5.r
  have z0 := frozen_of_row w5 w.heap.size 0 _ _ J5.r
  have z1 := frozen_of_row w5 w.heap.size 1 _ _ J5.r
  have z2 := frozen_of_row w5 w.heap.size 2 _ _ J5.r
  have HJ6 := Lib.hid J5
  clear J5 HJ5 hb5 HG5 HT HG P3
  by_cases hc : tc = 0
  · subst hc
    by_cases ht : tt = s
    · have hR := HE.out
      rw [if_pos ⟨rfl, ht⟩] at hR
      have y1 : (tt == s) = true := beq_iff_eq.2 ht
      have y2 : (tt != s) = false := by rw [bne, y1]; rfl
      have HRR := Lib.hid hR
      clear HE hR ht
      go_wp2
      rw [HRR.out]
      refine bodyPost_ret (results_cell_row_tmp rfl _ _ w.heap.size 28 _ _ _ (by kernel_rfl) (put3 HJ6.out.r) Tryz.underlying28 rfl (by kernel_rfl)) rfl ?_
      exact ⟨rfl, put3b HJ6.out.w (Nat.le_refl _)⟩
    · have hR := HE.out
      rw [if_neg (fun q => ht q.2)] at hR
      have y1 : (tt == s) = false := beq_eq_false_iff_ne.2 ht
      have y2 : (tt != s) = true := by rw [bne, y1]; rfl
      have HRR := Lib.hid hR
      clear HE hR ht
      go_wp2
      rw [HRR.out]
      refine bodyPost_ret (results_cell_row_tmp rfl _ _ w.heap.size 28 _ _ _ (by kernel_rfl) (put3 HJ6.out.r) Tryz.underlying28 rfl (by kernel_rfl)) rfl ?_
      exact ⟨rfl, put3b HJ6.out.w (Nat.le_refl _)⟩
  · have hR := HE.out
    rw [if_neg (fun q => hc q.1)] at hR
    have y1 : (tc != 0) = true := bne_iff_ne.2 hc
    have HRR := Lib.hid hR
    clear HE hR hc
    go_wp2
    rw [HRR.out]
    refine bodyPost_ret (results_cell_row_tmp rfl _ _ w.heap.size 28 _ _ _ (by kernel_rfl) (put3 HJ6.out.r) Tryz.underlying28 rfl (by kernel_rfl)) rfl ?_
    exact ⟨rfl, put3b HJ6.out.w (Nat.le_refl _)⟩

set_option maxRecDepth 100000 in
set_option maxHeartbeats 4000000 in
theorem read_m3 (s : Txt) (w : World) (hg : GoodS w) (h4 : s.length ≤ 4096) (w0 : Txt) (l c : Txt) (r : List Txt) (hws : Rg.sp s = w0 :: (l :: c :: r)) : Calls Tryz.prog 88 #[.string ⟨s.toArray⟩] w (ReadP w (Rg.readL Rg.numA s)) := by
  have hE : Rg.readL Rg.numA s = if (Rg.textL ⟨Rg.kindW w0, l, Rg.numA c⟩).2 = 0 ∧ (Rg.textL ⟨Rg.kindW w0, l, Rg.numA c⟩).1 = s then (⟨Rg.kindW w0, l, Rg.numA c⟩, 0) else (⟨0, [], 0⟩, 4) := by
    unfold Rg.readL; rw [if_neg (by omega), hws]; rfl
  have hlen := Rg.sp_word_len s
  rw [hws] at hlen
  obtain ⟨n, hn⟩ : ∃ n, (w0 :: (l :: c :: r)).length = n := ⟨_, rfl⟩
  have HS := Lib.hid (fun W => (Split2_c s W h4).mono fun e w' q => SplitP.named hws hn q)
  have HR := Lib.hid (fun W => rows_c W)
  have HG := Lib.hid hg
  have HX := Lib.hid (fun b tb g n W hr hc ht hn => ixR_c b tb g n w0 (l :: c :: r) W hr hc ht hn)
  have J := BX.new w #[.int .i64 0, .string ⟨#[]⟩, .int .i64 0] 28
  have HJ := Lib.hid J
  simp only [List.length_cons] at hn
  have hl := hlen l (by simp)
  have hl2 := hlen c (by simp)
  have q1 : (1 : Int) < (n : Int) := by omega
  have q2 : (2 : Int) < (n : Int) := by omega
  have q3 : 1 < n := by omega
  have q4 : 2 < n := by omega
  have HA := Lib.hid (fun W hW => Atoi_any c W hW (by omega))
  have HT := Lib.hid (fun W (hW : GoodS W) => Text_c ⟨Rg.kindW w0, l, Rg.numA c⟩ W hW.g (show l.length ≤ 140737488355328 by omega))
  generalize Rg.readL Rg.numA s = R at *
  generalize Rg.textL ⟨Rg.kindW w0, l, Rg.numA c⟩ = T at *
  obtain ⟨tt, tc⟩ := T
  simp only at hE
  have HE := Lib.hid hE
  have h4i : ¬ (4096 : Int) < (s.length : Int) := by omega
  generalize Rg.kindW w0 = K at *
  have hn0 : 0 < n := by omega
  clear hws J hg hE hlen hn h4
  go_enter Tryz.func88, Tryz.ntmps88
  go_upto_region 3 with fail
  go_wp2_with fail
  ((with_reducible refine (HS.out _).mono ?_); rintro e w1 ⟨rfl, ht1, hb1⟩)
  have J1 := HJ.out.later hb1
  generalize (w.alloc (.cells #[.int .i64 0, .string ⟨#[]⟩, .int .i64 0] 28)).heap.size = g at *
  have p1 : RdP 28 w w1.heap.size g n (w0 :: (l :: c :: r)) (w1.alloc (.cells #[.slice (some ⟨g, 0, none⟩) n n] 177)) := by
    have hb : Below w1.heap.size w1 (w1.alloc (.cells #[.slice (some ⟨g, 0, none⟩) n n] 177)) := (Below.refl _ _).alloc (Nat.le_refl _) _
    exact ⟨(J1.later hb).c, by rw [cell_of_row _ _ _ _ _ _ (heap_alloc_new w1 _)]; rfl, ht1.later hb, (J1.later hb).w⟩
  have P1 := Lib.hid p1
  clear p1 J1 ht1 hb1 HJ HS
  go_upto_region 4 with fail
  rename_i K0 hK0
  refine wp_region_lit ?_
  refine wpList_plain rfl fun K hK => ?_
  go_simp
  ((with_reducible refine (HR.out _).mono ?_); rintro e w2 ⟨rfl, hb2⟩)
  refine hK _ _ ?_; clear hK; clear K
  refine wpList_plain rfl fun K hK => ?_
  go_simp
  refine hK _ _ ?_; clear hK; clear K
  refine wpList_store_row rfl 100 (.tmp 5) (.tmp 15) rfl w2.heap.size rowsC rfl (by kernel_rfl) 100 rowsZ (heap_alloc_new w2 _) (by kernel_rfl) rfl (by kernel_rfl) ?_
  rw [World.setRow_alloc_new]
  refine wpList_nil ?_
  refine hK0 _ _ ?_
  have P4 := Lib.hid ((P1.out.later hb2).later ((Below.refl _ _).alloc (Nat.le_refl _) (.cells rowsC 100)))
  have R4 := Lib.hid (rows_at w2)
  clear P1 hb2 HR hK0
  generalize w2.alloc (.cells rowsC 100) = W4 at *
  generalize w2.heap.size = rb at *
  generalize w1.heap.size = tb at *
  have HX4 := Lib.hid (HX.out rb tb g n W4 R4.out P4.out.c P4.out.t hn0)
  clear HX R4
  go_wp2_with fail
  ((with_reducible refine HX4.out.mono ?_); rintro e w3 ⟨rfl, hb3⟩)
  have p3 := P4.out.later hb3
  have P3 := Lib.hid p3
  clear P4 hb3 HX4
  have f1 : ∀ o, (w3.alloc o).cell? ⟨tb, 0, none⟩ = some (.slice (some ⟨g, 0, none⟩) n n) := fun o => (World.cell?_alloc_lt w3 o ⟨tb, 0, none⟩ (World.block_lt_of_cell? w3 _ p3.c)).trans p3.c
  have f2 : ∀ o, (w3.alloc o).cell? ⟨g, 1, none⟩ = some (.string ⟨l.toArray⟩) := fun o => (World.cell?_alloc_lt w3 o ⟨g, 1, none⟩ p3.t.lt).trans (p3.t.cell (j := 1) (by simp))
  have f3 : ∀ o, (w3.alloc o).cell? ⟨g, 2, none⟩ = some (.string ⟨c.toArray⟩) := fun o => (World.cell?_alloc_lt w3 o ⟨g, 2, none⟩ p3.t.lt).trans (p3.t.cell (j := 2) (by simp))
  clear p3
  have HJ3 := Lib.hid (P3.out.entry #[.int .i64 K, .string ⟨l.toArray⟩, .int .i64 0])
  have HG3 := Lib.hid (HG.out.later HJ3.out.w)
  generalize Rg.numA c = N at *
  go_wp2_with fail
  ((with_reducible refine (HA.out _ HG3.out).mono ?_); rintro e w4 ⟨err, rfl, hb4⟩)
  have J4 := HJ3.out.later hb4
  obtain ⟨d0, d1, d2⟩ := cell3 J4.x
  have z2 := frozen_of_row w4 w3.heap.size 2 _ _ J4.x
  have HJ5 := Lib.hid (J4.set 2 (.int .i64 N) rfl)
  have HG5 := Lib.hid (HG.out.later HJ5.out.w)
  clear J4 HJ3 HG3 HA hb4 f1 f2 f3
  go_wp2_with fail
  clear d0 d1 d2 z2
  ((with_reducible refine (HT.out _ HG5.out).mono ?_); rintro e w5 ⟨rfl, hb5⟩)
  have J5 := HJ5.out.later hb5
  obtain ⟨d0, d1, d2⟩ := cell3 J5.x
  obtain ⟨r0, r1, r2⟩ := cell3 J5.r
  have z0 := frozen_of_row w5 w.heap.size 0 _ _ J5.r
  have z1 := frozen_of_row w5 w.heap.size 1 _ _ J5.r
  have z2 := frozen_of_row w5 w.heap.size 2 _ _ J5.r
  have HJ6 := Lib.hid J5
  clear J5 HJ5 hb5 HG5 HT HG P3
  by_cases hc : tc = 0
  · subst hc
    by_cases ht : tt = s
    · have hR := HE.out
      rw [if_pos ⟨rfl, ht⟩] at hR
      have y1 : (tt == s) = true := beq_iff_eq.2 ht
      have y2 : (tt != s) = false := by rw [bne, y1]; rfl
      have HRR := Lib.hid hR
      clear HE hR ht
      go_wp2
      rw [HRR.out]
      refine bodyPost_ret (results_cell_row_tmp rfl _ _ w.heap.size 28 _ _ _ (by kernel_rfl) (put3 HJ6.out.r) Tryz.underlying28 rfl (by kernel_rfl)) rfl ?_
      exact ⟨rfl, put3b HJ6.out.w (Nat.le_refl _)⟩
    · have hR := HE.out
      rw [if_neg (fun q => ht q.2)] at hR
      have y1 : (tt == s) = false := beq_eq_false_iff_ne.2 ht
      have y2 : (tt != s) = true := by rw [bne, y1]; rfl
      have HRR := Lib.hid hR
      clear HE hR ht
      go_wp2
      rw [HRR.out]
      refine bodyPost_ret (results_cell_row_tmp rfl _ _ w.heap.size 28 _ _ _ (by kernel_rfl) (put3 HJ6.out.r) Tryz.underlying28 rfl (by kernel_rfl)) rfl ?_
      exact ⟨rfl, put3b HJ6.out.w (Nat.le_refl _)⟩
  · have hR := HE.out
    rw [if_neg (fun q => hc q.1)] at hR
    have y1 : (tc != 0) = true := bne_iff_ne.2 hc
    have HRR := Lib.hid hR
    clear HE hR hc
    go_wp2
    rw [HRR.out]
    refine bodyPost_ret (results_cell_row_tmp rfl _ _ w.heap.size 28 _ _ _ (by kernel_rfl) (put3 HJ6.out.r) Tryz.underlying28 rfl (by kernel_rfl)) rfl ?_
    exact ⟨rfl, put3b HJ6.out.w (Nat.le_refl _)⟩

theorem Read_c (s : Txt) (w : World) (hg : GoodS w) (hl : s.length ≤ 140737488355328) : Calls Tryz.prog 88 #[.string ⟨s.toArray⟩] w (ReadP w (Rg.readL Rg.numA s)) := by
  by_cases h4 : 4096 < s.length
  · rw [show Rg.readL Rg.numA s = (⟨0, [], 0⟩, 17) by unfold Rg.readL; rw [if_pos h4]]
    exact read_long s w hl h4
  · cases hws : Rg.sp s with
    | nil => exact absurd hws (Rg.sp_ne s)
    | cons w0 ws =>
      match ws, hws with
      | [], hws => exact read_m1 s w hg (by omega) w0 hws
      | [l], hws => exact read_m2 s w hg (by omega) w0 l hws
      | l :: c :: r, hws => exact read_m3 s w hg (by omega) w0 l c r hws
end Go.Proofs.Wk
