/- SMALL LAWS FOR THE WALKS: a text is kept as the list of its bytes; a call that leaves old memory as it was. -/
import Derived.Test.YtcdjhgkeehhaaaaGreatDoorProg
import Derived.WalkKit
import Derived.WalkLawsBesides
import Derived.WalkSpells
import Derived.BigQuiet
import Derived.Deep.QuietTactic
import Derived.Lib.Hide
import Derived.Lib.Strings
import Derived.Lib.BufferWrite
import Derived.Laws.CopyOwn
import Derived.Outline
import Derived.Handy
import Derived.Deep.DeepCutAuto
import Derived.Deep.CutBlock
import Derived.Deep.DeepFit
import Derived.Deep.LoopGhost
import Derived.Deep.RegionWith
import Derived.StillTailTactics
import Derived.Test.YtcdjhgkeehhaaaaGreatDoorGA
namespace Go.Proofs.Wk
open Go.RowKit

/-- A text as the model holds it. -/
abbrev S (l : List UInt8) : ByteArray := ⟨l.toArray⟩

@[go_sem] theorem extract_mk (l : List UInt8) (a b : Nat) : (⟨l.toArray⟩ : ByteArray).extract a b = ⟨((l.drop a).take (b - a)).toArray⟩ := by
  rw [← Lib.mk_data ((⟨l.toArray⟩ : ByteArray).extract a b), Lib.extract_data]
@[go_sem] theorem append_mk (a b : List UInt8) : ((⟨a.toArray⟩ : ByteArray) ++ (⟨b.toArray⟩ : ByteArray)) = ⟨(a ++ b).toArray⟩ := by
  apply ByteArray.ext
  simp [ByteArray.data_append]
@[go_sem] theorem getElem_mk (l : List UInt8) (i : Nat) (h : i < (⟨l.toArray⟩ : ByteArray).size) : (⟨l.toArray⟩ : ByteArray)[i]'h = l[i]'(by simpa [ByteArray.size] using h) := rfl

/-- WHAT A CALL DOES: it returns v, and what was there before it is as it was. -/
def Ret (w : World) (v : Value) (e : Ending) (w' : World) : Prop := e = .returned v ∧ Below w.heap.size w w'
/-- The same where the call does nothing to the world. -/
def Pur (w : World) (v : Value) (e : Ending) (w' : World) : Prop := e = .returned v ∧ w = w'

theorem Pur.ret {w : World} {v : Value} {e : Ending} {w' : World} (h : Pur w v e w') : Ret w v e w' := by
  obtain ⟨rfl, rfl⟩ := h; exact ⟨rfl, Below.refl _ _⟩

/-- Below, step by step, from one call's world to the next one's. -/
theorem Below.step {w w1 w2 : World} (h1 : Below w.heap.size w w1) (h2 : Below w1.heap.size w1 w2) : Below w.heap.size w w2 := h1.trans (h2.mono h1.size)

/-- How many bytes a slot's text has: for a loop's measure. -/
def lenOf : Value → Nat | .string s => s.size | _ => 0
theorem lenOf_mk (l : List UInt8) : lenOf (.string ⟨l.toArray⟩) = l.length := by simp [lenOf, ByteArray.size]

/-- Go's '==' on bytes, as the walk spells it. -/
theorem u8_eq (c d : UInt8) {k : Int} (h : (d.toNat : Int) = k) : ((c.toNat : Int) == k) = (c == d) := by
  rw [← h, Bool.eq_iff_iff]
  simp only [beq_iff_eq]
  exact ⟨fun e => UInt8.toNat.inj (by omega), fun e => by rw [e]⟩
theorem u8_eq_no {c d : UInt8} {k : Int} (h : (d.toNat : Int) = k) (hne : c ≠ d) : ((c.toNat : Int) == k) = false := by
  rw [u8_eq c d h]; simpa using hne
theorem u8_eq_yes {c d : UInt8} {k : Int} (h : (d.toNat : Int) = k) (he : c = d) : ((c.toNat : Int) == k) = true := by
  rw [u8_eq c d h]; simpa using he
theorem ret_bool {a b : Bool} (h : a = b) : Ending.returned (.bool a) = .returned (.bool b) := by rw [h]
theorem ret_int {k : IntKind} {a b : Int} (h : a = b) : Ending.returned (.int k a) = .returned (.int k b) := by rw [h]
theorem ret_two {k k' : IntKind} {a b c d : Int} (h : a = c) (h' : b = d) : Ending.returned (.tuple #[.int k a, .int k' b]) = .returned (.tuple #[.int k c, .int k' d]) := by rw [h, h']
theorem ret_str {a b : List UInt8} (h : a = b) : Ending.returned (.string ⟨a.toArray⟩) = .returned (.string ⟨b.toArray⟩) := by rw [h]
/-- A text and an int, as two results. -/
abbrev ans2 (r : List UInt8 × Int) : Value := .tuple #[.string ⟨r.1.toArray⟩, .int .i64 r.2]
/-- The number that a slot's digits spell: for a loop's measure. -/
def numOf : Value → Nat | .string s => Mt.nat s.data.toList | _ => 0
theorem numOf_dec (n : Nat) : numOf (.string ⟨(Lib.decDigits n).toArray⟩) = n := by simp [numOf, Mt.nat_dec]

/-! ### Rows of bytes and of ints that a call has made, known whole -/
theorem info_u8 : (Tryz.prog.info? 5).map (fun i => (i.zero, i.size, i.bytes)) = some (some (.int .u8 0), 1, 1) := by kernel_rfl
theorem info_int : (Tryz.prog.info? 3).map (fun i => (i.zero, i.size, i.bytes)) = some (some (.int .i64 0), 1, 8) := by kernel_rfl

def RB (w : World) (g : Nat) (bs : List UInt8) : Prop := w.heap[g]? = some (.cells (Lib.byteCells bs).toArray 5 (0, 0))
def RI (w : World) (g : Nat) (xs : List Int) : Prop := w.heap[g]? = some (.cells (xs.map (Value.int .i64)).toArray 3 (0, 0))

theorem RB.lt {w : World} {g : Nat} {bs : List UInt8} (h : RB w g bs) : g < w.heap.size := (Array.getElem?_eq_some_iff.1 h).1
theorem RI.lt {w : World} {g : Nat} {xs : List Int} (h : RI w g xs) : g < w.heap.size := (Array.getElem?_eq_some_iff.1 h).1
theorem RB.cell {w : World} {g : Nat} {bs : List UInt8} (h : RB w g bs) {j : Nat} (hj : j < bs.length) : w.cell? ⟨g, j, none⟩ = some (.int .u8 ((bs[j]).toNat : Int)) := by
  rw [cell_of_row w g j _ _ _ h]; simp [Lib.byteCells, hj]
theorem RI.cell {w : World} {g : Nat} {xs : List Int} (h : RI w g xs) {j : Nat} (hj : j < xs.length) : w.cell? ⟨g, j, none⟩ = some (.int .i64 xs[j]) := by
  rw [cell_of_row w g j _ _ _ h]; simp [hj]
theorem RB.free {w : World} {g : Nat} {bs : List UInt8} (h : RB w g bs) (j : Nat) : w.frozen? ⟨g, j, none⟩ = false := frozen_of_row w g j _ _ h
theorem RI.free {w : World} {g : Nat} {xs : List Int} (h : RI w g xs) (j : Nat) : w.frozen? ⟨g, j, none⟩ = false := frozen_of_row w g j _ _ h
theorem RB.set {w : World} {g : Nat} {bs : List UInt8} (h : RB w g bs) (j : Nat) (c : UInt8) {v : Value} (hv : v = .int .u8 (c.toNat : Int)) : RB (w.setCell ⟨g, j, none⟩ v) g (bs.set j c) := by
  subst hv
  have := heap_setCell_same w g j _ _ (.int .u8 (c.toNat : Int)) h
  unfold RB; rw [this]
  simp [Lib.byteCells, List.map_set]
theorem RI.set {w : World} {g : Nat} {xs : List Int} (h : RI w g xs) (j : Nat) (x : Int) {v : Value} (hv : v = .int .i64 x) : RI (w.setCell ⟨g, j, none⟩ v) g (xs.set j x) := by
  subst hv
  have := heap_setCell_same w g j _ _ (.int .i64 x) h
  unfold RI; rw [this]
  simp [List.map_set]
theorem RB.below {w w' : World} {g B : Nat} {bs : List UInt8} (h : RB w g bs) (hb : Below B w w') (hg : g < B) : RB w' g bs := by unfold RB; rw [hb.block g hg]; exact h
theorem RI.below {w w' : World} {g B : Nat} {xs : List Int} (h : RI w g xs) (hb : Below B w w') (hg : g < B) : RI w' g xs := by unfold RI; rw [hb.block g hg]; exact h
theorem RB.later {w w' : World} {g : Nat} {bs : List UInt8} (h : RB w g bs) (hb : Below w.heap.size w w') : RB w' g bs := h.below hb h.lt
theorem RI.later {w w' : World} {g : Nat} {xs : List Int} (h : RI w g xs) (hb : Below w.heap.size w w') : RI w' g xs := h.below hb h.lt

theorem made_bytes (n : Nat) : madeCells #[.int .u8 0] n = (Lib.byteCells (List.replicate n 0)).toArray := by
  apply Array.ext
  · simp [size_madeCells, Lib.byteCells]
  · intro i h1 h2; simp [madeCells, Lib.byteCells, Nat.mod_one]
theorem made_ints (n : Nat) : madeCells #[.int .i64 0] n = ((List.replicate n (0 : Int)).map (Value.int .i64)).toArray := by
  apply Array.ext
  · simp [size_madeCells]
  · intro i h1 h2; simp [madeCells, Nat.mod_one]
theorem RB.made (w : World) (n : Nat) : RB (w.alloc (.cells (madeCells #[.int .u8 0] n) 5)) w.heap.size (List.replicate n 0) := by
  unfold RB; rw [← made_bytes]; exact heap_alloc_new w _
theorem RI.made (w : World) (n : Nat) : RI (w.alloc (.cells (madeCells #[.int .i64 0] n) 3)) w.heap.size (List.replicate n 0) := by
  unfold RI; rw [← made_ints]; exact heap_alloc_new w _
theorem run_make_bytes (n : Nat) (hn : n ≤ 140737488355328) (w : World) :
    (Instr.makeSlice 193 (.int .i64 (n : Int)) (.int .i64 (n : Int))).run Tryz.prog w = .ok (.slice (some ⟨w.heap.size, 0, none⟩) n n) (w.alloc (.cells (madeCells #[.int .u8 0] n) 5)) := by
  obtain ⟨i0, hi, hz0, hz1, hz2⟩ := info_parts info_u8
  have := run_make (P := Tryz.prog) w 193 5 i0 (.int .u8 0) Tryz.underlying193 hi hz0 .i64 .i64 n n (by omega) (by omega) (by rw [hz2]; omega) (by omega)
  rw [this, hz1]
  simp [Value.cells]
theorem run_make_ints (n : Nat) (hn : n ≤ 1407374883553) (w : World) :
    (Instr.makeSlice 132 (.int .i64 (n : Int)) (.int .i64 (n : Int))).run Tryz.prog w = .ok (.slice (some ⟨w.heap.size, 0, none⟩) n n) (w.alloc (.cells (madeCells #[.int .i64 0] n) 3)) := by
  obtain ⟨i0, hi, hz0, hz1, hz2⟩ := info_parts info_int
  have := run_make (P := Tryz.prog) w 132 3 i0 (.int .i64 0) Tryz.underlying132 hi hz0 .i64 .i64 n n (by omega) (by omega) (by rw [hz2]; omega) (by omega)
  rw [this, hz1]
  simp [Value.cells]
/-- 'string(b)' of a row of bytes. -/
theorem run_string_row {w : World} {g : Nat} {bs : List UInt8} (h : RB w g bs) {n : Nat} (hn : n = bs.length) (cap : Nat) :
    (convert 193 9 (.slice (some ⟨g, 0, none⟩) n cap)).run Tryz.prog w = .ok (.string ⟨bs.toArray⟩) w := by
  subst hn
  refine run_convert_bytes_back w _ _ 5 ⟨g, 0, none⟩ cap bs Tryz.underlying193 Tryz.underlying5 Tryz.underlying9 fun j hj => ?_
  have : (⟨g, 0, none⟩ : Addr).add j = ⟨g, j, none⟩ := by unfold Addr.add; split <;> simp_all
  rw [this]; exact h.cell hj
/-- 'copy(row[o:], s)', s a text that fits. -/
theorem run_copy_text {w : World} {g : Nat} {bs : List UInt8} (h : RB w g bs) (o : Nat) (l : List UInt8) (dl dc : Nat) (hdl : l.length ≤ dl) (ho : o + l.length ≤ bs.length) (ty : TypeId) :
    ∃ w', (Builtin.copy_ #[193, 9] ty #[.slice (some ⟨g, o, none⟩) dl dc, .string ⟨l.toArray⟩]).run Tryz.prog w = .ok (.int .i64 l.length) w' ∧
      RB w' g (bs.take o ++ l ++ bs.drop (o + l.length)) ∧ (∀ B, B ≤ g → Below B w w') := by
  obtain ⟨i0, hi, hz0, hz1, hz2⟩ := info_parts info_u8
  have hs : (⟨l.toArray⟩ : ByteArray).size = l.length := by simp [ByteArray.size]
  have := Lib.run_copy_row_string (P := Tryz.prog) w 193 9 ty 5 g o dl dc ⟨l.toArray⟩ _ _ Tryz.underlying193 (by rw [hi]; simp [hz1]) h (by rw [hs]; exact hdl) (by rw [hs]; simpa [Lib.byteCells] using ho)
  refine ⟨_, by rw [this, hs]; rfl, ?_, fun B hB => below_setRow (Below.refl _ _) hB _⟩
  have h2 := setRow_heap w g _ ((Lib.byteCells bs).toArray.toList.take o ++ Lib.byteCells l ++ (Lib.byteCells bs).toArray.toList.drop (o + l.length)).toArray _ _ h
  unfold RB
  refine h2.trans ?_
  simp [Lib.byteCells]
/-- 'copy' for the walk, where its run is known by an equation. -/
theorem wpList_copy_run {P : Program} (w : World) {ops : Array Oper} {rest : List Oper} {o : Oper} {a : Act} {Q : Exit → Act → World → Prop} (hgd : o.guard = none) (d s : Operand) (t t' : TypeId)
    (ho : o.op = .call { callee := .builtin .copy, args := #[d, s], argTypes := #[t, t'] }) (v u : Value) (hd : a.eval d = v) (hs : a.eval s = u) {v' : Value} {w' : World}
    (hr : (Builtin.copy_ #[t, t'] o.type #[v, u]).run P w = .ok v' w') (h : wpList P ops Q rest (a.put o.dst v') w') : wpList P ops Q (o :: rest) a w := by
  refine wpList_plain hgd fun K hK => ?_
  unfold Oper.wp execOp
  simp only [ho, resolve, invoke, builtin, Sem.run_bind, Sem.run_pure, Result.andThen_ok, List.map_toArray, List.map_cons, List.map_nil, hd, hs, hr]
  exact hK _ _ h
end Go.Proofs.Wk
