/- REGISTERS OF LOTS: the law's conversions, its entries; slices.Equal at lots. -/
import Derived.Test.YtnhegeifcneiaaaGreatDoorRhP
import Derived.Test.YtnhegeifcneiaaaGreatDoorKD
namespace Go.Proofs.Wk
open Go.RowKit Mt

/-- A row as that of the reference. -/
def ConvP {α : Type} [Row α] (w : World) (ls : List α) (e : Ending) (w' : World) : Prop := ∃ v', e = .returned v' ∧ SlX w' v' ls ∧ Below w.heap.size w w'
theorem new_rowE {w : World} {x : Rg.En} {T : TypeId} : ∀ j, j < Row.k Rg.En → (w.alloc (.cells (entC x).toArray T)).cell? ⟨w.heap.size, j, none⟩ = (Row.enc x)[j]? := fun j _ => by
  rw [cell_of_row _ _ _ _ _ _ (heap_alloc_new w _)]; exact List.getElem?_toArray ..
abbrev entZ : Value := .agg #[.int .i64 0, .string ⟨#[]⟩, .int .i64 0]
set_option maxRecDepth 100000 in
set_option maxHeartbeats 2000000 in
theorem lots_c {v : Value} (ls : List Rg.Lt) (w : World) (S : SlX w v ls) (hln : ls.length * 64 ≤ 140737488355328) : Calls Tryz.prog 20 #[v] w (ConvP w ls) := by
  rcases S with ⟨a, cap, rfl, rfl⟩ | ⟨b, off, cap, rfl, hR, hb⟩
  · go_enter Tryz.func20, Tryz.ntmps20
    go_wp2_with fail
    refine wp_loop_rounds 1 ?_
    rw [rounds_succ]
    go_wp2
    go_ret
    exact ⟨_, rfl, .inl ⟨none, 0, rfl, rfl⟩, Below.refl _ _⟩
  have HR := Lib.hid hR
  have HN := Lib.hid hln
  have hl : ls.length ≤ 140737488355328 := by omega
  clear hR hln
  go_enter Tryz.func20, Tryz.ntmps20
  go_wp2_with fail
  go_loopw [3, 8] (fun so si wr => ∃ (i : Nat), si = .int .i64 (i : Int) ∧ i ≤ ls.length ∧ Hid (OwX 98 wr w.heap.size so (ls.take i)) ∧ Hid (Below w.heap.size w wr)) (fun _ si _ => ls.length - (intOf si).toNat)
  case atStart => exact ⟨0, rfl, Nat.zero_le _, OwX.nil _ _ _, Below.refl _ _⟩
  case round =>
    obtain ⟨i, rfl, hi, hO, hB⟩ := hrel
    by_cases hlt : i < ls.length
    · obtain ⟨k0, k1, k2, k3, k4, k5, k6⟩ := (HR.out.later hB.out hb).lot hlt
      have HNX := Lib.hid (List.take_succ_eq_append_getElem hlt).symm
      have HL := Lib.hid (show ((ls.take i).length + 1) * 64 ≤ 140737488355328 by have := HN.out; rw [List.length_take]; omega)
      generalize ls[i] = x at *
      obtain ⟨a0, a1, a2, a3, a4, a5, a6⟩ := x
      simp only at k0 k1 k2 k3 k4 k5 k6
      have hs1 : (wr.alloc (.cells #[.string ⟨a0.toArray⟩, .int .i64 a1, .int .i64 a2, .int .i64 a3, .int .i64 a4, .int .i64 a5, .int .i64 a6] 68)).heap.size = wr.heap.size + 1 := by simp
      have hrow : ∀ j, j < Row.k Rg.Lt → ((wr.alloc (.cells #[.string ⟨a0.toArray⟩, .int .i64 a1, .int .i64 a2, .int .i64 a3, .int .i64 a4, .int .i64 a5, .int .i64 a6] 68)).alloc (.cells #[.string ⟨a0.toArray⟩, .int .i64 a1, .int .i64 a2, .int .i64 a3, .int .i64 a4, .int .i64 a5, .int .i64 a6] 98)).cell? ⟨wr.heap.size + 1, j, none⟩ = (Row.enc (⟨a0, a1, a2, a3, a4, a5, a6⟩ : Rg.Lt))[j]? := fun j hj => by
        have := new_row (w := wr.alloc (.cells #[.string ⟨a0.toArray⟩, .int .i64 a1, .int .i64 a2, .int .i64 a3, .int .i64 a4, .int .i64 a5, .int .i64 a6] 68)) (x := ⟨a0, a1, a2, a3, a4, a5, a6⟩) (T := 98) j hj
        rw [hs1] at this; exact this
      have hbo : Below wr.heap.size wr ((wr.alloc (.cells #[.string ⟨a0.toArray⟩, .int .i64 a1, .int .i64 a2, .int .i64 a3, .int .i64 a4, .int .i64 a5, .int .i64 a6] 68)).alloc (.cells #[.string ⟨a0.toArray⟩, .int .i64 a1, .int .i64 a2, .int .i64 a3, .int .i64 a4, .int .i64 a5, .int .i64 a6] 98)) := ((Below.refl _ _).alloc (Nat.le_refl _) _).alloc (by rw [hs1]; omega) _
      have HRW := Lib.hid hrow
      have HBO := Lib.hid hbo
      clear hs1 hrow hbo
      go_wp2_with (at_builtin; refine wpList_app_row rfl _ _ 43 98 rfl Tryz.underlying43 lotZ 64 (by decide) (by kernel_rfl) rfl w.heap.size _ (ls.take i) rfl (hO.out.later HBO.out) _ (⟨a0, a1, a2, a3, a4, a5, a6⟩ : Rg.Lt) rfl HRW.out HL.out (Nat.le_trans hB.out.size HBO.out.size) ?_; intro v1 w1 ho1 hb1)
      have HO1 := Lib.hid ho1
      have HB1 := Lib.hid ((hB.out.trans (HBO.out.mono hB.out.size)).trans hb1)
      clear ho1 hb1
      go_roundw
      case rel => exact ⟨i + 1, by go_num, by omega, by rw [← HNX.out]; exact HO1.out, HB1.out⟩
      case measure => simp [intOf]; omega
    · obtain rfl : i = ls.length := by omega
      have hO2 := hO.out
      rw [List.take_length] at hO2
      have HO2 := Lib.hid hO2.sl
      clear hO hO2
      go_wp2
      go_ret
      exact ⟨_, rfl, HO2.out, hB.out⟩
set_option maxRecDepth 100000 in
set_option maxHeartbeats 2000000 in
theorem entries_c {v : Value} (ls : List Rg.En) (w : World) (S : SlX w v ls) (hln : ls.length * 32 ≤ 140737488355328) : Calls Tryz.prog 24 #[v] w (ConvP w ls) := by
  rcases S with ⟨a, cap, rfl, rfl⟩ | ⟨b, off, cap, rfl, hR, hb⟩
  · go_enter Tryz.func24, Tryz.ntmps24
    go_wp2_with fail
    refine wp_loop_rounds 1 ?_
    rw [rounds_succ]
    go_wp2
    go_ret
    exact ⟨_, rfl, .inl ⟨none, 0, rfl, rfl⟩, Below.refl _ _⟩
  have HR := Lib.hid hR
  have HN := Lib.hid hln
  have hl : ls.length ≤ 140737488355328 := by omega
  clear hR hln
  go_enter Tryz.func24, Tryz.ntmps24
  go_wp2_with fail
  go_loopw [3, 8] (fun so si wr => ∃ (i : Nat), si = .int .i64 (i : Int) ∧ i ≤ ls.length ∧ Hid (OwX 30 wr w.heap.size so (ls.take i)) ∧ Hid (Below w.heap.size w wr)) (fun _ si _ => ls.length - (intOf si).toNat)
  case atStart => exact ⟨0, rfl, Nat.zero_le _, OwX.nil _ _ _, Below.refl _ _⟩
  case round =>
    obtain ⟨i, rfl, hi, hO, hB⟩ := hrel
    by_cases hlt : i < ls.length
    · obtain ⟨k0, k1, k2⟩ := (HR.out.later hB.out hb).ent hlt
      have HNX := Lib.hid (List.take_succ_eq_append_getElem hlt).symm
      have HL := Lib.hid (show ((ls.take i).length + 1) * 32 ≤ 140737488355328 by have := HN.out; rw [List.length_take]; omega)
      generalize ls[i] = x at *
      obtain ⟨a0, a1, a2⟩ := x
      simp only at k0 k1 k2
      have hs1 : (wr.alloc (.cells #[.int .i64 a0, .string ⟨a1.toArray⟩, .int .i64 a2] 23)).heap.size = wr.heap.size + 1 := by simp
      have hrow : ∀ j, j < Row.k Rg.En → ((wr.alloc (.cells #[.int .i64 a0, .string ⟨a1.toArray⟩, .int .i64 a2] 23)).alloc (.cells #[.int .i64 a0, .string ⟨a1.toArray⟩, .int .i64 a2] 30)).cell? ⟨wr.heap.size + 1, j, none⟩ = (Row.enc (⟨a0, a1, a2⟩ : Rg.En))[j]? := fun j hj => by
        have := new_rowE (w := wr.alloc (.cells #[.int .i64 a0, .string ⟨a1.toArray⟩, .int .i64 a2] 23)) (x := ⟨a0, a1, a2⟩) (T := 30) j hj
        rw [hs1] at this; exact this
      have hbo : Below wr.heap.size wr ((wr.alloc (.cells #[.int .i64 a0, .string ⟨a1.toArray⟩, .int .i64 a2] 23)).alloc (.cells #[.int .i64 a0, .string ⟨a1.toArray⟩, .int .i64 a2] 30)) := ((Below.refl _ _).alloc (Nat.le_refl _) _).alloc (by rw [hs1]; omega) _
      have HRW := Lib.hid hrow
      have HBO := Lib.hid hbo
      clear hs1 hrow hbo
      go_wp2_with (at_builtin; refine wpList_app_row rfl _ _ 52 30 rfl Tryz.underlying52 entZ 32 (by decide) (by kernel_rfl) rfl w.heap.size _ (ls.take i) rfl (hO.out.later HBO.out) _ (⟨a0, a1, a2⟩ : Rg.En) rfl HRW.out HL.out (Nat.le_trans hB.out.size HBO.out.size) ?_; intro v1 w1 ho1 hb1)
      have HO1 := Lib.hid ho1
      have HB1 := Lib.hid ((hB.out.trans (HBO.out.mono hB.out.size)).trans hb1)
      clear ho1 hb1
      go_roundw
      case rel => exact ⟨i + 1, by go_num, by omega, by rw [← HNX.out]; exact HO1.out, HB1.out⟩
      case measure => simp [intOf]; omega
    · obtain rfl : i = ls.length := by omega
      have hO2 := hO.out
      rw [List.take_length] at hO2
      have HO2 := Lib.hid hO2.sl
      clear hO hO2
      go_wp2
      go_ret
      exact ⟨_, rfl, HO2.out, hB.out⟩
/-- The entries of the chapter. -/
def seven : List Rg.En := [⟨0, [65], 10⟩, ⟨1, [65], 6⟩, ⟨2, [65], 4⟩, ⟨3, [65], 3⟩, ⟨4, [65], 1⟩, ⟨5, [65], 0⟩, ⟨6, [65], 0⟩]
def SevenP (w : World) (e : Ending) (w' : World) : Prop := ∃ g, e = .returned (.slice (some ⟨g, 0, none⟩) 7 7) ∧ RX w' g 0 seven ∧ g < w'.heap.size ∧ Below w.heap.size w w'
set_option maxRecDepth 100000 in
theorem Seven_c (w : World) : Calls Tryz.prog 29 #[] w (SevenP w) := by
  go_enter Tryz.func29, Tryz.ntmps29
  go_wp2
  go_ret
  exact ⟨w.heap.size, rfl, RX.lit w seven _, alloc_lt w _, (Below.refl _ _).alloc (Nat.le_refl _) _⟩
end Go.Proofs.Wk
