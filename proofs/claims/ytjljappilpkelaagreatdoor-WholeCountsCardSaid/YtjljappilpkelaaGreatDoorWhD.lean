/- THE PROGRAM's MAGNITUDES: a multiple of one is added to another one. -/
import Derived.Test.YtjljappilpkelaaGreatDoorWhC
namespace Go.Proofs.Wk
open Go.RowKit Mt

set_option maxRecDepth 100000 in
set_option maxHeartbeats 8000000 in
theorem carry_c (bx bz : Nat) (sx sy : Bool) (X Y T : Nat) (f : Int) (up : Nat) (w : World) (hx : CW w bx sx X) (hy : CW w bz sy Y) (hne : bx ≠ bz)
    (hf0 : -1000000000 < f) (hf1 : f < 1000000000) (hup : wlen Y + up ≤ 232) (hT : (X : Int) + f * 1000000000 ^ up * Y = T) (hTm : T < wmax) :
    Calls Tryz.prog 70 #[.pointer (some ⟨bx, 0, none⟩), .pointer (some ⟨bz, 0, none⟩), .int .i64 f, .int .i64 (up : Int)] w (Chg w bx sx T (.tuple #[])) := by
  obtain ⟨hXm, hxW⟩ := hx
  obtain ⟨hYm, hyW⟩ := hy
  have hXl := wmax_le.1 hXm
  have hzx := wds_zero hXm
  obtain ⟨ny, hny⟩ : ∃ ny, wlen Y = ny := ⟨_, rfl⟩
  rw [hny] at hyW hup
  have HNY := Lib.hid hny; have HT := Lib.hid hT; have HTM := Lib.hid hTm; have HXM := Lib.hid hXm; have HYM := Lib.hid hYm; have HNE := Lib.hid hne; have HYW := Lib.hid hyW
  clear hny hT hTm hXm hYm hne hyW
  have hup2 : up ≤ 232 := by omega
  go_enter Tryz.func70, Tryz.ntmps70
  go_wp2_with fail
  go_loopw [8, 9] (fun sr si wr => ∃ (i : Nat) (rest : Int) (k : Nat) (ws : List Int), sr = .int .i64 rest ∧ si = .int .i64 i ∧ -3000000001 ≤ rest ∧ rest ≤ 3000000001 ∧ i + up ≤ 232 ∧ WB wr bx sx k ws ∧ k ≤ 232 ∧ Hid (okW ws) ∧ Hid (zeroFrom ws k) ∧ Hid (AddAt X Y f up ws i rest) ∧ w.grownBy wr (some bx)) (fun _ si _ => 1000 - (intOf si).toNat)
  case atStart => exact ⟨0, 0, wlen X, wds X, rfl, rfl, by omega, by omega, by omega, hxW, hXl, wds_ok X, hzx, add_start X Y f up HXM.out, gb_refl _ _⟩
  case round =>
    clear hxW hXl hzx
    obtain ⟨i, rest, k, ws, rfl, rfl, hr0, hr1, hiu, hW, hk, hok, hz, hA, hG⟩ := hrel
    have hyW2 := HYW.out.kept hG (by intro e; exact HNE.out (Option.some.inj e).symm)
    have hcy := hyW2.c1
    have key : (i < ny ∧ True) ∨ (¬ i < ny ∧ rest ≠ 0) ∨ (¬ i < ny ∧ rest = 0) := by
      by_cases a : i < ny
      · exact .inl ⟨a, trivial⟩
      · by_cases b : rest = 0
        · exact .inr (.inr ⟨a, b⟩)
        · exact .inr (.inl ⟨a, b⟩)
    have hroom : (i < ny ∨ rest ≠ 0) → i + up < 232 := by
      intro h
      by_cases a : i < ny
      · omega
      · have h0 : rest ≠ 0 := h.resolve_left a
        exact add_room (add_end hA.out HYM.out (by rw [HNY.out]; omega) HT.out) hW.len hok.out HTM.out h0
    rcases key with ⟨hlt, _⟩ | ⟨hge, hrn⟩ | ⟨hge, hr⟩
    · have hroom2 := hroom (.inl hlt)
      clear hroom
      have hil : i + up < ws.length := by rw [hW.len]; exact hroom2
      have hiy : i < (wds Y).length := by rw [wds_length]; omega
      have hcx := hW.cw hil
      have hcyw := hyW2.cw hiy
      rw [wat_get hiy] at hcyw
      have hyb := wat_bd Y i
      obtain ⟨y, hyy⟩ : ∃ y, wat Y i = y := ⟨_, rfl⟩
      rw [hyy] at hcyw hyb
      have HY := Lib.hid hyy; clear hyy
      obtain ⟨hy0, hy1⟩ := hyb
      obtain ⟨hv0, hv1⟩ := okW_at hok.out hil
      obtain ⟨v, hv⟩ : ∃ v, ws[i + up] = v := ⟨_, rfl⟩
      rw [hv] at hcx hv0 hv1
      have HV := Lib.hid hv; clear hv
      have hfy : -1000000000000000000 ≤ f * y ∧ f * y ≤ 1000000000000000000 := by
        have a1 : f * y ≤ 1000000000 * y := Int.mul_le_mul_of_nonneg_right (by omega) hy0
        have a2 : -1000000000 * y ≤ f * y := Int.mul_le_mul_of_nonneg_right (by omega) hy0
        omega
      obtain ⟨hfy0, hfy1⟩ := hfy
      obtain ⟨q, hq, hq0, hq1, hqd⟩ := base_div (v + rest + f * y) (by omega) (by omega)
      have hix : ((i : Int) + (up : Int)).toNat = i + up := by omega
      have hlx : i + up < 232 := hroom2
      have hf1x := hW.free 1
      have hfwx := hW.free (2 + (i + up))
      have hc1x := hW.c1
      go_upto_if 56 with fail
      go_cut [8, 10] (fun s8 s10 wx => ∃ q' d : Int, s8 = .int .i64 q' ∧ s10 = .int .i64 d ∧ (v + rest + f * y) = q' * 1000000000 + d ∧ 0 ≤ d ∧ d < 1000000000 ∧ -3000000001 ≤ q' ∧ q' ≤ 3000000000 ∧ wr = wx)
      case first =>
        clear hA hok hz HV
        rcases hqd with ⟨hd0, hd1⟩ | ⟨hd0, hd1⟩
        · have hd2 : ¬ (v + rest + f * y) - q * 1000000000 < 0 := by omega
          go_wp2_with fail
          all_goals go_meet
          exact ⟨q, (v + rest + f * y) - q * 1000000000, rfl, rfl, by omega, hd0, hd1, by omega, by omega, rfl⟩
        · go_wp2_with fail
          all_goals go_meet
          exact ⟨q - 1, (v + rest + f * y) - q * 1000000000 + 1000000000, rfl, rfl, by omega, by omega, by omega, by omega, by omega, rfl⟩
      case rest =>
        obtain ⟨q', d, rfl, rfl, hs, hd0, hd1, hq0', hq1', rfl⟩ := hcut
        have hA2 := add_step hA.out hil v q' d HV.out (by rw [HY.out]; exact hs)
        have HA2 := Lib.hid hA2
        have hW2 := hW.setw (i + up) d rfl
        have hcx1 := hW2.c1
        have hfx1 := hW2.free 1
        clear hA hs hq hqd hq0 hq1 hA2
        by_cases hkk : k ≤ i + up
        · go_wp2
          go_roundw
          case rel =>
            exact ⟨i + 1, q', i + up + 1, _, rfl, by go_num, by omega, by omega, by omega, hW2.set1 _ (by go_num), by omega, okW_set hok.out _ hd0 hd1, zeroFrom_set (zeroFrom_mono hz.out (by omega)) (by omega) _, HA2.out, gb_set (gb_set hG _ _) _ _⟩
          case measure => simp [intOf]; omega
        · go_wp2
          go_roundw
          case rel =>
            exact ⟨i + 1, q', k, _, rfl, by go_num, by omega, by omega, by omega, hW2.set1 _ (by go_num), by omega, okW_set hok.out _ hd0 hd1, zeroFrom_set hz.out (by omega) _, HA2.out, gb_set (gb_set hG _ _) _ _⟩
          case measure => simp [intOf]; omega
    · have hroom2 := hroom (.inr hrn)
      clear hroom
      have hil : i + up < ws.length := by rw [hW.len]; exact hroom2
      have hcx := hW.cw hil
      have HY := Lib.hid (wat_zero (i := i) HYM.out (by rw [HNY.out]; omega))
      obtain ⟨hv0, hv1⟩ := okW_at hok.out hil
      obtain ⟨v, hv⟩ : ∃ v, ws[i + up] = v := ⟨_, rfl⟩
      rw [hv] at hcx hv0 hv1
      have HV := Lib.hid hv; clear hv
      have hrb : (rest != 0) = true := by rw [bne_iff_ne]; exact hrn
      obtain ⟨q, hq, hq0, hq1, hqd⟩ := base_div (v + rest) (by omega) (by omega)
      have hix : ((i : Int) + (up : Int)).toNat = i + up := by omega
      have hlx : i + up < 232 := hroom2
      have hf1x := hW.free 1
      have hfwx := hW.free (2 + (i + up))
      have hc1x := hW.c1
      go_upto_if 56 with fail
      go_cut [8, 10] (fun s8 s10 wx => ∃ q' d : Int, s8 = .int .i64 q' ∧ s10 = .int .i64 d ∧ (v + rest) = q' * 1000000000 + d ∧ 0 ≤ d ∧ d < 1000000000 ∧ -3000000001 ≤ q' ∧ q' ≤ 3000000000 ∧ wr = wx)
      case first =>
        clear hA hok hz HV
        rcases hqd with ⟨hd0, hd1⟩ | ⟨hd0, hd1⟩
        · have hd2 : ¬ (v + rest) - q * 1000000000 < 0 := by omega
          go_wp2_with fail
          all_goals go_meet
          exact ⟨q, (v + rest) - q * 1000000000, rfl, rfl, by omega, hd0, hd1, by omega, by omega, rfl⟩
        · go_wp2_with fail
          all_goals go_meet
          exact ⟨q - 1, (v + rest) - q * 1000000000 + 1000000000, rfl, rfl, by omega, by omega, by omega, by omega, by omega, rfl⟩
      case rest =>
        obtain ⟨q', d, rfl, rfl, hs, hd0, hd1, hq0', hq1', rfl⟩ := hcut
        have hA2 := add_step hA.out hil v q' d HV.out (by rw [HY.out, Int.mul_zero, Int.add_zero]; exact hs)
        have HA2 := Lib.hid hA2
        have hW2 := hW.setw (i + up) d rfl
        have hcx1 := hW2.c1
        have hfx1 := hW2.free 1
        clear hA hs hq hqd hq0 hq1 hA2
        by_cases hkk : k ≤ i + up
        · go_wp2
          go_roundw
          case rel =>
            exact ⟨i + 1, q', i + up + 1, _, rfl, by go_num, by omega, by omega, by omega, hW2.set1 _ (by go_num), by omega, okW_set hok.out _ hd0 hd1, zeroFrom_set (zeroFrom_mono hz.out (by omega)) (by omega) _, HA2.out, gb_set (gb_set hG _ _) _ _⟩
          case measure => simp [intOf]; omega
        · go_wp2
          go_roundw
          case rel =>
            exact ⟨i + 1, q', k, _, rfl, by go_num, by omega, by omega, by omega, hW2.set1 _ (by go_num), by omega, okW_set hok.out _ hd0 hd1, zeroFrom_set hz.out (by omega) _, HA2.out, gb_set (gb_set hG _ _) _ _⟩
          case measure => simp [intOf]; omega
    · subst hr
      have hend := add_end hA.out HYM.out (by rw [HNY.out]; omega) HT.out
      rw [Int.zero_mul, Int.add_zero] at hend
      have HE := Lib.hid hend
      clear hend hroom
      go_wp2_with fail
      refine (trimmed_c bx sx k T ws wr hW hk hok.out hz.out HE.out).mono ?_
      rintro e w2 ⟨rfl, hC, hG2⟩
      go_wp2
      go_end0
      exact ⟨rfl, hC, gb_trans hG hG2⟩
end Go.Proofs.Wk
