/- THE PROGRAM's MAGNITUDES: which of two is the greater one; sums with signs; products. -/
import Derived.Test.YtjljappilpkelaaGreatDoorWhD
namespace Go.Proofs.Wk
open Go.RowKit Mt

/-- What a comparison of magnitudes answers: an int that is at least 0 exactly if the second one is not beyond the first one. -/
def Bey (w : World) (X Y : Nat) (e : Ending) (w' : World) : Prop := ∃ d : Int, e = .returned (.int .i64 d) ∧ (Y ≤ X → 0 ≤ d) ∧ (X < Y → d < 0) ∧ ∃ k, w' = w.drewN k

theorem drewN_zero (w : World) : w = w.drewN 0 := by simp [World.drewN]

set_option maxRecDepth 100000 in
set_option maxHeartbeats 4000000 in
theorem beyond_c (bx bz : Nat) (sx sy : Bool) (X Y : Nat) (w : World) (hx : CW w bx sx X) (hy : CW w bz sy Y) :
    Calls Tryz.prog 76 #[.pointer (some ⟨bx, 0, none⟩), .pointer (some ⟨bz, 0, none⟩)] w (Bey w X Y) := by
  obtain ⟨hXm, hxW⟩ := hx
  obtain ⟨hYm, hyW⟩ := hy
  have hXl := wmax_le.1 hXm
  have hYl := wmax_le.1 hYm
  obtain ⟨nx, hnx⟩ : ∃ n, wlen X = n := ⟨_, rfl⟩
  obtain ⟨ny, hny⟩ : ∃ n, wlen Y = n := ⟨_, rfl⟩
  rw [hnx] at hxW hXl
  rw [hny] at hyW hYl
  have HXW := Lib.hid hxW; have HYW := Lib.hid hyW
  have hcx := hxW.c1
  have hcy := hyW.c1
  have HXM := Lib.hid hXm; have HYM := Lib.hid hYm; have HNX := Lib.hid hnx; have HNY := Lib.hid hny
  clear hxW hyW hXm hYm hnx hny
  by_cases hne : nx = ny
  · subst hne
    go_enter Tryz.func76, Tryz.ntmps76
    go_wp2_with fail
    go_quiet (fail)
    go_wp2_with fail
    go_loopw [5] (fun si wr => ∃ k q : Nat, si = .int .i64 ((k : Int) - 1) ∧ k ≤ nx ∧ Hid (wsuf X k = wsuf Y k) ∧ wr = w.drewN q) (fun si _ => (intOf si + 1).toNat)
    case atStart =>
      refine ⟨nx, nq, rfl, Nat.le_refl _, ?_, rfl⟩
      show _ = _
      rw [wsuf_zero HXM.out (by rw [HNX.out]; exact Nat.le_refl _), wsuf_zero HYM.out (by rw [HNY.out]; exact Nat.le_refl _)]
    case round =>
      obtain ⟨k, q, rfl, hk, hs, rfl⟩ := hrel
      by_cases h0 : 1 ≤ k
      · obtain ⟨i, rfl⟩ : ∃ i, k = i + 1 := ⟨k - 1, by omega⟩
        rw [show (((i + 1 : Nat) : Int) - 1) = (i : Int) by omega]
        have hiy : i < (wds Y).length := by rw [wds_length]; omega
        have hix : i < (wds X).length := by rw [wds_length]; omega
        have hcwx := HXW.out.cw hix
        have hcwy := HYW.out.cw hiy
        rw [wat_get hix] at hcwx
        rw [wat_get hiy] at hcwy
        have hi232 : (i : Int) < 232 := by omega
        have hi232' : i < 232 := by omega
        have bx1 := wat_bd X i
        have by1 := wat_bd Y i
        have hhl := @high_lt X Y i HXM.out HYM.out (by omega) hs.out
        have hhg := @high_lt Y X i HYM.out HXM.out (by omega) hs.out.symm
        have hhe := @high_eq X Y i (by omega) hs.out
        generalize wat X i = xi at *
        generalize wat Y i = yi at *
        have HL := Lib.hid hhl; have HG := Lib.hid hhg; have HE := Lib.hid hhe
        clear hhl hhg hhe hs
        obtain ⟨bx10, bx11⟩ := bx1
        obtain ⟨by10, by11⟩ := by1
        by_cases hxy : xi = yi
        · subst hxy
          go_wp2_with fail
          go_quiet (fail)
          go_wp2_with fail
          go_roundw
          case rel => exact ⟨i, q + nq, by go_num, by omega, HE.out (by first | rfl | trivial), by first | rfl | exact World.drewN_drewN _ _ _⟩
          case measure => simp [intOf]
        · have hxyb : (xi != yi) = true := by rw [bne_iff_ne]; exact hxy
          have HXY := Lib.hid hxy
          clear hxy
          go_wp2_with fail
          go_quiet (fail)
          go_wp2_with fail
          go_quiet (fail)
          go_wp2
          go_ret
          refine ⟨xi - yi, rfl, fun h => ?_, fun h => ?_, _, by rw [World.drewN_drewN, World.drewN_drewN]⟩
          · have h1 := HXY.out
            rcases Int.lt_or_lt_of_ne h1 with h2 | h2
            · have := HL.out h2; omega
            · omega
          · have h1 := HXY.out
            rcases Int.lt_or_lt_of_ne h1 with h2 | h2
            · omega
            · have := HG.out h2; omega
      · obtain rfl : k = 0 := by omega
        go_wp2
        go_ret
        have := all_eq HXM.out HYM.out hs.out
        exact ⟨0, rfl, fun _ => Int.le_refl _, fun h => by omega, q, rfl⟩
  · have hneb : ((nx : Int) != (ny : Int)) = true := by rw [bne_iff_ne]; omega
    go_enter Tryz.func76, Tryz.ntmps76
    go_wp2_with fail
    go_quiet (fail)
    go_wp2_with fail
    go_quiet (fail)
    go_wp2
    go_ret
    have e1 := HNX.out
    have e2 := HNY.out
    refine ⟨nx - ny, rfl, fun h => ?_, fun h => ?_, _, by rw [World.drewN_drewN]⟩
    · have := wlen_mono h; omega
    · have := wlen_mono (Nat.le_of_lt h); omega

/-! ### sums with signs -/
/-- The sign bit and the magnitude of an integer. -/
def IW (w : World) (b : Nat) (n : Int) : Prop := ∃ s, CW w b s n.natAbs ∧ (n ≠ 0 → s = decide (n < 0))

theorem wcells_len {s : Bool} {n : Int} {ws : List Int} (h : ws.length = 232) : (wcells s n ws).toArray.size = 234 := by simp [wcells, h]
theorem info_wide : (Tryz.prog.info? 73).map (·.size) = some 234 := by kernel_rfl
theorem wcells_one (s : Bool) (n : Int) (ws : List Int) : ∀ v ∈ wcells s n ws, v.oneCell' = true := by
  intro v hv
  simp only [wcells, List.mem_cons, List.mem_map] at hv
  rcases hv with rfl | rfl | ⟨x, _, rfl⟩ <;> rfl

end Go.Proofs.Wk
