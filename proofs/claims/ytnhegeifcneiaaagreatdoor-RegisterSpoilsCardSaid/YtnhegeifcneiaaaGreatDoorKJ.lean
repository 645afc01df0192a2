/- REGISTERS OF LOTS: the law's conversions, its entries; slices.Equal at lots. -/
import Derived.Test.YtnhegeifcneiaaaGreatDoorRhP
import Derived.Test.YtnhegeifcneiaaaGreatDoorKD
import Derived.Test.YtnhegeifcneiaaaGreatDoorKH
import Derived.Test.YtnhegeifcneiaaaGreatDoorKG
import Derived.Test.YtnhegeifcneiaaaGreatDoorHB
namespace Go.Proofs.Wk
open Go.RowKit Mt

/-- A row as that of the reference. -/
def ConvP {α : Type} [Row α] (w : World) (ls : List α) (e : Ending) (w' : World) : Prop := ∃ v', e = .returned v' ∧ SlX w' v' ls ∧ Below w.heap.size w w'
theorem new_rowE {w : World} {x : Rg.En} {T : TypeId} : ∀ j, j < Row.k Rg.En → (w.alloc (.cells (entC x).toArray T)).cell? ⟨w.heap.size, j, none⟩ = (Row.enc x)[j]? := fun j _ => by
  rw [cell_of_row _ _ _ _ _ _ (heap_alloc_new w _)]; exact List.getElem?_toArray ..
abbrev entZ : Value := .agg #[.int .i64 0, .string ⟨#[]⟩, .int .i64 0]
set_option maxRecDepth 100000 in
set_option maxHeartbeats 2000000 in
theorem lots_c {v : Value} (ls : List Rg.Lt) (w : World) (S : SlX w v ls) (hln : ls.length * 64 ≤ 140737488355328) : Calls Tryz.prog 20 #[v] w (ConvP w ls) := by
  rcases S with ⟨a, cap, rfl, rfl⟩ | ⟨b, off, cap, rfl, hR, hb⟩
  · go_enter Tryz.func20, Tryz.ntmps20
    go_wp2_with fail
    refine wp_loop_rounds 1 ?_
    rw [rounds_succ]
    go_wp2
    go_ret
    exact ⟨_, rfl, .inl ⟨none, 0, rfl, rfl⟩, Below.refl _ _⟩
  have HR := Lib.hid hR
  have HN := Lib.hid hln
  have hl : ls.length ≤ 140737488355328 := by omega
  clear hR hln
  go_enter Tryz.func20, Tryz.ntmps20
  go_wp2_with fail
  go_loopw [3, 8] (fun so si wr => ∃ (i : Nat), si = .int .i64 (i : Int) ∧ i ≤ ls.length ∧ Hid (OwX 98 wr w.heap.size so (ls.take i)) ∧ Hid (Below w.heap.size w wr)) (fun _ si _ => ls.length - (intOf si).toNat)
  case atStart => exact ⟨0, rfl, Nat.zero_le _, OwX.nil _ _ _, Below.refl _ _⟩
  case round =>
    obtain ⟨i, rfl, hi, hO, hB⟩ := hrel
    by_cases hlt : i < ls.length
    · obtain ⟨k0, k1, k2, k3, k4, k5, k6⟩ := (HR.out.later hB.out hb).lot hlt
      have HNX := Lib.hid (List.take_succ_eq_append_getElem hlt).symm
      have HL := Lib.hid (show ((ls.take i).length + 1) * 64 ≤ 140737488355328 by have := HN.out; rw [List.length_take]; omega)
      generalize ls[i] = x at *
      obtain ⟨a0, a1, a2, a3, a4, a5, a6⟩ := x
      simp only at k0 k1 k2 k3 k4 k5 k6
      have hs1 : (wr.alloc (.cells #[.string ⟨a0.toArray⟩, .int .i64 a1, .int .i64 a2, .int .i64 a3, .int .i64 a4, .int .i64 a5, .int .i64 a6] 68)).heap.size = wr.heap.size + 1 := by simp
      have hrow : ∀ j, j < Row.k Rg.Lt → ((wr.alloc (.cells #[.string ⟨a0.toArray⟩, .int .i64 a1, .int .i64 a2, .int .i64 a3, .int .i64 a4, .int .i64 a5, .int .i64 a6] 68)).alloc (.cells #[.string ⟨a0.toArray⟩, .int .i64 a1, .int .i64 a2, .int .i64 a3, .int .i64 a4, .int .i64 a5, .int .i64 a6] 98)).cell? ⟨wr.heap.size + 1, j, none⟩ = (Row.enc (⟨a0, a1, a2, a3, a4, a5, a6⟩ : Rg.Lt))[j]? := fun j hj => by
        have := new_row (w := wr.alloc (.cells #[.string ⟨a0.toArray⟩, .int .i64 a1, .int .i64 a2, .int .i64 a3, .int .i64 a4, .int .i64 a5, .int .i64 a6] 68)) (x := ⟨a0, a1, a2, a3, a4, a5, a6⟩) (T := 98) j hj
        rw [hs1] at this; exact this
      have hbo : Below wr.heap.size wr ((wr.alloc (.cells #[.string ⟨a0.toArray⟩, .int .i64 a1, .int .i64 a2, .int .i64 a3, .int .i64 a4, .int .i64 a5, .int .i64 a6] 68)).alloc (.cells #[.string ⟨a0.toArray⟩, .int .i64 a1, .int .i64 a2, .int .i64 a3, .int .i64 a4, .int .i64 a5, .int .i64 a6] 98)) := ((Below.refl _ _).alloc (Nat.le_refl _) _).alloc (by rw [hs1]; omega) _
      have HRW := Lib.hid hrow
      have HBO := Lib.hid hbo
      clear hs1 hrow hbo
      go_wp2_with (at_builtin; refine wpList_app_row rfl _ _ 43 98 rfl Tryz.underlying43 lotZ 64 (by decide) (by kernel_rfl) rfl w.heap.size _ (ls.take i) rfl (hO.out.later HBO.out) _ (⟨a0, a1, a2, a3, a4, a5, a6⟩ : Rg.Lt) rfl HRW.out HL.out (Nat.le_trans hB.out.size HBO.out.size) ?_; intro v1 w1 ho1 hb1)
      have HO1 := Lib.hid ho1
      have HB1 := Lib.hid ((hB.out.trans (HBO.out.mono hB.out.size)).trans hb1)
      clear ho1 hb1
      go_roundw
      case rel => exact ⟨i + 1, by go_num, by omega, by rw [← HNX.out]; exact HO1.out, HB1.out⟩
      case measure => simp [intOf]; omega
    · obtain rfl : i = ls.length := by omega
      have hO2 := hO.out
      rw [List.take_length] at hO2
      have HO2 := Lib.hid hO2.sl
      clear hO hO2
      go_wp2
      go_ret
      exact ⟨_, rfl, HO2.out, hB.out⟩
set_option maxRecDepth 100000 in
set_option maxHeartbeats 2000000 in
theorem entries_c {v : Value} (ls : List Rg.En) (w : World) (S : SlX w v ls) (hln : ls.length * 32 ≤ 140737488355328) : Calls Tryz.prog 24 #[v] w (ConvP w ls) := by
  rcases S with ⟨a, cap, rfl, rfl⟩ | ⟨b, off, cap, rfl, hR, hb⟩
  · go_enter Tryz.func24, Tryz.ntmps24
    go_wp2_with fail
    refine wp_loop_rounds 1 ?_
    rw [rounds_succ]
    go_wp2
    go_ret
    exact ⟨_, rfl, .inl ⟨none, 0, rfl, rfl⟩, Below.refl _ _⟩
  have HR := Lib.hid hR
  have HN := Lib.hid hln
  have hl : ls.length ≤ 140737488355328 := by omega
  clear hR hln
  go_enter Tryz.func24, Tryz.ntmps24
  go_wp2_with fail
  go_loopw [3, 8] (fun so si wr => ∃ (i : Nat), si = .int .i64 (i : Int) ∧ i ≤ ls.length ∧ Hid (OwX 30 wr w.heap.size so (ls.take i)) ∧ Hid (Below w.heap.size w wr)) (fun _ si _ => ls.length - (intOf si).toNat)
  case atStart => exact ⟨0, rfl, Nat.zero_le _, OwX.nil _ _ _, Below.refl _ _⟩
  case round =>
    obtain ⟨i, rfl, hi, hO, hB⟩ := hrel
    by_cases hlt : i < ls.length
    · obtain ⟨k0, k1, k2⟩ := (HR.out.later hB.out hb).ent hlt
      have HNX := Lib.hid (List.take_succ_eq_append_getElem hlt).symm
      have HL := Lib.hid (show ((ls.take i).length + 1) * 32 ≤ 140737488355328 by have := HN.out; rw [List.length_take]; omega)
      generalize ls[i] = x at *
      obtain ⟨a0, a1, a2⟩ := x
      simp only at k0 k1 k2
      have hs1 : (wr.alloc (.cells #[.int .i64 a0, .string ⟨a1.toArray⟩, .int .i64 a2] 23)).heap.size = wr.heap.size + 1 := by simp
      have hrow : ∀ j, j < Row.k Rg.En → ((wr.alloc (.cells #[.int .i64 a0, .string ⟨a1.toArray⟩, .int .i64 a2] 23)).alloc (.cells #[.int .i64 a0, .string ⟨a1.toArray⟩, .int .i64 a2] 30)).cell? ⟨wr.heap.size + 1, j, none⟩ = (Row.enc (⟨a0, a1, a2⟩ : Rg.En))[j]? := fun j hj => by
        have := new_rowE (w := wr.alloc (.cells #[.int .i64 a0, .string ⟨a1.toArray⟩, .int .i64 a2] 23)) (x := ⟨a0, a1, a2⟩) (T := 30) j hj
        rw [hs1] at this; exact this
      have hbo : Below wr.heap.size wr ((wr.alloc (.cells #[.int .i64 a0, .string ⟨a1.toArray⟩, .int .i64 a2] 23)).alloc (.cells #[.int .i64 a0, .string ⟨a1.toArray⟩, .int .i64 a2] 30)) := ((Below.refl _ _).alloc (Nat.le_refl _) _).alloc (by rw [hs1]; omega) _
      have HRW := Lib.hid hrow
      have HBO := Lib.hid hbo
      clear hs1 hrow hbo
      go_wp2_with (at_builtin; refine wpList_app_row rfl _ _ 52 30 rfl Tryz.underlying52 entZ 32 (by decide) (by kernel_rfl) rfl w.heap.size _ (ls.take i) rfl (hO.out.later HBO.out) _ (⟨a0, a1, a2⟩ : Rg.En) rfl HRW.out HL.out (Nat.le_trans hB.out.size HBO.out.size) ?_; intro v1 w1 ho1 hb1)
      have HO1 := Lib.hid ho1
      have HB1 := Lib.hid ((hB.out.trans (HBO.out.mono hB.out.size)).trans hb1)
      clear ho1 hb1
      go_roundw
      case rel => exact ⟨i + 1, by go_num, by omega, by rw [← HNX.out]; exact HO1.out, HB1.out⟩
      case measure => simp [intOf]; omega
    · obtain rfl : i = ls.length := by omega
      have hO2 := hO.out
      rw [List.take_length] at hO2
      have HO2 := Lib.hid hO2.sl
      clear hO hO2
      go_wp2
      go_ret
      exact ⟨_, rfl, HO2.out, hB.out⟩
/-- The entries of the chapter. -/
def seven : List Rg.En := [⟨0, [65], 10⟩, ⟨1, [65], 6⟩, ⟨2, [65], 4⟩, ⟨3, [65], 3⟩, ⟨4, [65], 1⟩, ⟨5, [65], 0⟩, ⟨6, [65], 0⟩]
def SevenP (w : World) (e : Ending) (w' : World) : Prop := ∃ g, e = .returned (.slice (some ⟨g, 0, none⟩) 7 7) ∧ RX w' g 0 seven ∧ g < w'.heap.size ∧ Below w.heap.size w w'
set_option maxRecDepth 100000 in
theorem Seven_c (w : World) : Calls Tryz.prog 29 #[] w (SevenP w) := by
  go_enter Tryz.func29, Tryz.ntmps29
  go_wp2
  go_ret
  exact ⟨w.heap.size, rfl, RX.lit w seven _, alloc_lt w _, (Below.refl _ _).alloc (Nat.le_refl _) _⟩
end Go.Proofs.Wk
/- REGISTERS OF LOTS: the law's example. -/
namespace Go.Proofs.Wk
open Go.RowKit Mt

theorem SlX.of {α : Type} [Row α] {w : World} {b off n cap : Nat} {ls : List α} (h : RX w b off ls) (hb : b < w.heap.size) (hn : ls.length = n) : SlX w (.slice (some ⟨b, off, none⟩) n cap) ls := by
  subst hn; exact .inr ⟨b, off, cap, rfl, h, hb⟩
theorem all7_1 : Rg.allL seven = ([⟨[65], 10, 6, 0, 3, 1, 2⟩], 0, 0) := by decide
theorem all7_2 : Rg.allL (seven.take 2) = ([⟨[65], 10, 6, 0, 0, 0, 0⟩], 0, 0) := by decide
theorem do7_1 : (Rg.doL [⟨[65], 10, 6, 0, 0, 0, 0⟩] ⟨5, [65], 0⟩) = ([], 16) := by decide
theorem do7_2 : (Rg.doL [⟨[65], 10, 6, 0, 0, 0, 0⟩] ⟨1, [65], 5⟩) = ([], 16) := by decide
theorem do7_3 : (Rg.doL [⟨[65], 10, 6, 0, 0, 0, 0⟩] ⟨6, [65], 0⟩) = ([], 14) := by decide
theorem do7_4 : (Rg.doL [⟨[65], 10, 6, 0, 0, 0, 0⟩] ⟨1, [66], 1⟩) = ([], 6) := by decide
theorem sum7_1 : Rg.sumL 1 [97] = 355 := by decide
theorem sum7_2 : Rg.sumL 1 [97, 98] = 91334 := by decide
theorem txt7 : Rg.textL ⟨3, [65], 3⟩ = ([99, 111, 110, 99, 101, 100, 101, 32, 65, 32, 51], 0) := by
  unfold Rg.textL Rg.writ Lib.itoa
  rw [if_neg (by decide), if_neg (by decide), if_neg (by decide), show Int.toNat 3 = 3 from rfl, Lib.decDigits, dif_pos (by decide)]
  rfl
theorem use7 : useL [⟨[65], 10, 6, 0, 3, 1, 2⟩] [65] = ([57, 47, 49, 48], 0) := by
  unfold useL
  rw [if_neg (by decide), if_neg (by decide), if_pos (by decide)]
  show (rtoa (Rat.divInt (6 + 3) 10), (0 : Int)) = _
  rw [show Rat.divInt (6 + 3) 10 = rv [57, 47, 49, 48] by decide +kernel, rtoa_rv (by decide +kernel)]
set_option maxRecDepth 100000 in
set_option maxHeartbeats 1000000 in
theorem Equal1_c {v u : Value} (x : Rg.Lt) (w : World) (S : SlX w v [x]) (T : SlX w u [x]) : Calls Tryz.prog 32 #[v, u] w (Ret w (.bool true)) := by
  rcases S with ⟨_, _, _, h⟩ | ⟨b, off, cap, rfl, hR, hb⟩
  · cases h
  rcases T with ⟨_, _, _, h⟩ | ⟨b2, off2, cap2, rfl, hR2, hb2⟩
  · cases h
  obtain ⟨k0, k1, k2, k3, k4, k5, k6⟩ := hR.lot (i := 0) (by simp)
  obtain ⟨l0, l1, l2, l3, l4, l5, l6⟩ := hR2.lot (i := 0) (by simp)
  obtain ⟨a0, a1, a2, a3, a4, a5, a6⟩ := x
  simp only [Nat.zero_mul, Nat.add_zero, List.getElem_cons_zero] at k0 k1 k2 k3 k4 k5 k6 l0 l1 l2 l3 l4 l5 l6
  clear hR hR2 hb hb2
  rw [show ([(⟨a0, a1, a2, a3, a4, a5, a6⟩ : Rg.Lt)] : List Rg.Lt).length = 1 from rfl]
  go_enter Tryz.func32, Tryz.ntmps32
  go_wp2_with fail
  refine wp_loop_rounds 2 ?_
  rw [rounds_succ]
  go_wp2_with fail
  go_region
  all_goals
    go_wp2_with fail
    rw [rounds_succ]
    go_wp2
    go_ret
    exact ⟨rfl, (Below.refl _ _).drew⟩
set_option maxRecDepth 100000 in
set_option maxHeartbeats 4000000 in
theorem awake_c (w : World) (hg : Good w) : Calls Tryz.prog 8 #[] w (Ret w (.bool true)) := by
  have HG := Lib.hid hg
  have H7 := Lib.hid (fun W => Seven_c W)
  have HA1 := Lib.hid (fun v W S => by have := All_c (v := v) seven W S (by decide) (by decide); rwa [all7_1] at this)
  have HA2 := Lib.hid (fun v W S => by have := All_c (v := v) (seven.take 2) W S (by decide) (by decide); rwa [all7_2] at this)
  have HU := Lib.hid (fun v W hW S => by have := Usable_c (v := v) [⟨[65], 10, 6, 0, 3, 1, 2⟩] [65] W hW S (by decide) (by decide); rwa [use7] at this)
  have D1 := Lib.hid (fun v W S => by have := Do_c (v := v) [⟨[65], 10, 6, 0, 0, 0, 0⟩] ⟨5, [65], 0⟩ W S (by decide) (by decide); rwa [do7_1] at this)
  have D2 := Lib.hid (fun v W S => by have := Do_c (v := v) [⟨[65], 10, 6, 0, 0, 0, 0⟩] ⟨1, [65], 5⟩ W S (by decide) (by decide); rwa [do7_2] at this)
  have D3 := Lib.hid (fun v W S => by have := Do_c (v := v) [⟨[65], 10, 6, 0, 0, 0, 0⟩] ⟨6, [65], 0⟩ W S (by decide) (by decide); rwa [do7_3] at this)
  have D4 := Lib.hid (fun v W S => by have := Do_c (v := v) [⟨[65], 10, 6, 0, 0, 0, 0⟩] ⟨1, [66], 1⟩ W S (by decide) (by decide); rwa [do7_4] at this)
  have HT := Lib.hid (fun W hW => by have := Text_c ⟨3, [65], 3⟩ W hW (by decide); rwa [txt7] at this)
  have HE := Lib.hid (fun v u W S T => Equal1_c (v := v) (u := u) ⟨[65], 10, 6, 0, 3, 1, 2⟩ W S T)
  have M1 := Lib.hid (fun W => by have := Sum_c 1 [97] W (by decide); rwa [sum7_1] at this)
  have M2 := Lib.hid (fun W => by have := Sum_c 1 [97, 98] W (by decide); rwa [sum7_2] at this)
  clear hg
  go_enter Tryz.func8, Tryz.ntmps8
  go_wp2_with fail
  ((with_reducible refine (H7.out _).mono ?_); rintro e w1 ⟨g1, rfl, hr1, hg1, b1⟩)
  have B1 := Lib.hid b1
  go_wp2_with fail
  ((with_reducible refine (HA1.out _ _ (SlX.of (n := 7) hr1 hg1 rfl)).mono ?_); rintro e w2 ⟨v2, rfl, s2, b2⟩)
  have B2 := Lib.hid (B1.out.trans (b2.mono B1.out.size))
  have S2 := Lib.hid s2
  clear hr1 hg1 b1 b2 s2
  go_wp2_with fail
  ((with_reducible refine (HU.out _ _ (HG.out.later B2.out) S2.out).mono ?_); rintro e w3 ⟨rfl, b3⟩)
  have B3 := Lib.hid (B2.out.trans (b3.mono B2.out.size))
  have S3 := Lib.hid (S2.out.later b3)
  clear b3 S2
  go_wp2_with fail
  ((with_reducible refine (H7.out _).mono ?_); rintro e w4 ⟨g4, rfl, hr4, hg4, b4⟩)
  have B4 := Lib.hid (B3.out.trans (b4.mono B3.out.size))
  have S4 := Lib.hid (S3.out.later b4)
  clear b4 S3
  go_wp2_with fail
  ((with_reducible refine (HA2.out _ _ (SlX.of (n := 2) (hr4.take 2) hg4 rfl)).mono ?_); rintro e w5 ⟨v5, rfl, s5, b5⟩)
  have B5 := Lib.hid (B4.out.trans (b5.mono B4.out.size))
  have S5 := Lib.hid (S4.out.later b5)
  have T5 := Lib.hid s5
  clear hr4 hg4 b5 s5 S4
  go_wp2_with fail
  ((with_reducible refine (D1.out _ _ T5.out).mono ?_); rintro e w6 ⟨v6, rfl, -, b6⟩)
  have B6 := Lib.hid (B5.out.trans (b6.mono B5.out.size))
  have S6 := Lib.hid (S5.out.later b6)
  have T6 := Lib.hid (T5.out.later b6)
  clear b6 S5 T5
  go_wp2_with fail
  ((with_reducible refine (D2.out _ _ T6.out).mono ?_); rintro e w7 ⟨v7, rfl, -, b7⟩)
  have B7 := Lib.hid (B6.out.trans (b7.mono B6.out.size))
  have S7 := Lib.hid (S6.out.later b7)
  have T7 := Lib.hid (T6.out.later b7)
  clear b7 S6 T6
  go_wp2_with fail
  ((with_reducible refine (D3.out _ _ T7.out).mono ?_); rintro e w8 ⟨v8, rfl, -, b8⟩)
  have B8 := Lib.hid (B7.out.trans (b8.mono B7.out.size))
  have S8 := Lib.hid (S7.out.later b8)
  have T8 := Lib.hid (T7.out.later b8)
  clear b8 S7 T7
  go_wp2_with fail
  ((with_reducible refine (D4.out _ _ T8.out).mono ?_); rintro e w9 ⟨v9, rfl, -, b9⟩)
  have B9 := Lib.hid (B8.out.trans (b9.mono B8.out.size))
  have S9 := Lib.hid (S8.out.later b9)
  clear b9 S8 T8
  go_wp2_with fail
  ((with_reducible refine (H7.out _).mono ?_); rintro e w10 ⟨g10, rfl, hr10, hg10, b10⟩)
  have B10 := Lib.hid (B9.out.trans (b10.mono B9.out.size))
  have S10 := Lib.hid (S9.out.later b10)
  obtain ⟨p0, p1, p2⟩ := hr10.ent (i := 3) (by decide)
  have k0 : w10.cell? ⟨g10, 9, none⟩ = some (.int .i64 3) := p0
  have k1 : w10.cell? ⟨g10, 10, none⟩ = some (.string ⟨#[65]⟩) := p1
  have k2 : w10.cell? ⟨g10, 11, none⟩ = some (.int .i64 3) := p2
  clear b10 S9 hr10 p0 p1 p2
  go_wp2_with fail
  ((with_reducible refine (HT.out _ (HG.out.later B10.out)).mono ?_); rintro e w11 ⟨rfl, b11⟩)
  have B11 := Lib.hid (B10.out.trans (b11.mono B10.out.size))
  have S11 := Lib.hid (S10.out.later b11)
  clear b11 S10 k0 k1 k2
  go_wp2_with fail
  have hb0 := (Below.refl w11.heap.size w11).alloc (Nat.le_refl _) (.cells #[.string ⟨#[65]⟩, .int .i64 10, .int .i64 6, .int .i64 0, .int .i64 3, .int .i64 1, .int .i64 2] 68)
  have hlit : RX (w11.alloc (.cells #[.string ⟨#[65]⟩, .int .i64 10, .int .i64 6, .int .i64 0, .int .i64 3, .int .i64 1, .int .i64 2] 68)) w11.heap.size 0 [(⟨[65], 10, 6, 0, 3, 1, 2⟩ : Rg.Lt)] := RX.lit w11 [(⟨[65], 10, 6, 0, 3, 1, 2⟩ : Rg.Lt)] _
  ((with_reducible refine (HE.out _ _ _ (S11.out.later hb0) (SlX.of (n := 1) hlit (alloc_lt w11 _) rfl)).mono ?_); rintro e w12 ⟨rfl, b12⟩)
  have B12 := Lib.hid (B11.out.trans ((hb0.trans (b12.mono hb0.size)).mono B11.out.size))
  clear hb0 b12 hlit
  go_wp2_with fail
  ((with_reducible refine (M1.out _).mono ?_); rintro e w13 ⟨rfl, b13⟩)
  have B13 := Lib.hid (B12.out.trans (b13.mono B12.out.size))
  clear b13
  go_wp2_with fail
  ((with_reducible refine (M2.out _).mono ?_); rintro e w14 ⟨rfl, b14⟩)
  have B14 := Lib.hid (B13.out.trans (b14.mono B13.out.size))
  clear b14
  go_wp2
  go_ret
  exact ⟨rfl, B14.out⟩
end Go.Proofs.Wk
