/- THE PROGRAM's MAGNITUDES IN MEMORY: a block with a sign, a count and 232 words; words of 0 are left out; a multiple is added. -/
import Derived.Test.YtcdjhgkeehhaaaaGreatDoorBase
import Derived.Test.YtcdjhgkeehhaaaaGreatDoorGA
namespace Go.Proofs.Wk
open Go.RowKit Mt

/-- The cells of a magnitude. -/
def wcells (s : Bool) (n : Int) (ws : List Int) : List Value := .bool s :: .int .i64 n :: ws.map (Value.int .i64)
/-- BLOCK b HOLDS the sign s, the count n and the words ws. -/
structure WB (w : World) (b : Nat) (s : Bool) (n : Int) (ws : List Int) : Prop where
  len : ws.length = 232
  blk : w.heap[b]? = some (.cells (wcells s n ws).toArray 160 (0, 0))
theorem WB.lt {w : World} {b : Nat} {s : Bool} {n : Int} {ws : List Int} (h : WB w b s n ws) : b < w.heap.size := (Array.getElem?_eq_some_iff.1 h.blk).1
theorem WB.c0 {w : World} {b : Nat} {s : Bool} {n : Int} {ws : List Int} (h : WB w b s n ws) : w.cell? ⟨b, 0, none⟩ = some (.bool s) := by
  rw [cell_of_row w b 0 _ _ _ h.blk]; rfl
theorem WB.c1 {w : World} {b : Nat} {s : Bool} {n : Int} {ws : List Int} (h : WB w b s n ws) : w.cell? ⟨b, 1, none⟩ = some (.int .i64 n) := by
  rw [cell_of_row w b 1 _ _ _ h.blk]; rfl
theorem WB.cw {w : World} {b : Nat} {s : Bool} {n : Int} {ws : List Int} (h : WB w b s n ws) {i : Nat} (hi : i < ws.length) : w.cell? ⟨b, 2 + i, none⟩ = some (.int .i64 ws[i]) := by
  rw [cell_of_row w b (2 + i) _ _ _ h.blk]
  have : 2 + i = i + 1 + 1 := by omega
  simp [wcells, this, hi]
theorem WB.free {w : World} {b : Nat} {s : Bool} {n : Int} {ws : List Int} (h : WB w b s n ws) (j : Nat) : w.frozen? ⟨b, j, none⟩ = false := frozen_of_row w b j _ _ h.blk
theorem WB.set1 {w : World} {b : Nat} {s : Bool} {n : Int} {ws : List Int} (h : WB w b s n ws) (n' : Int) {v : Value} (hv : v = .int .i64 n') : WB (w.setCell ⟨b, 1, none⟩ v) b s n' ws := by
  subst hv
  refine ⟨h.len, (heap_setCell_same w b 1 _ _ (.int .i64 n') h.blk).trans ?_⟩
  simp [wcells]
theorem WB.set0 {w : World} {b : Nat} {s : Bool} {n : Int} {ws : List Int} (h : WB w b s n ws) (s' : Bool) {v : Value} (hv : v = .bool s') : WB (w.setCell ⟨b, 0, none⟩ v) b s' n ws := by
  subst hv
  refine ⟨h.len, (heap_setCell_same w b 0 _ _ (.bool s') h.blk).trans ?_⟩
  simp [wcells]
theorem WB.setw {w : World} {b : Nat} {s : Bool} {n : Int} {ws : List Int} (h : WB w b s n ws) (i : Nat) (x : Int) {v : Value} (hv : v = .int .i64 x) : WB (w.setCell ⟨b, 2 + i, none⟩ v) b s n (ws.set i x) := by
  subst hv
  refine ⟨by rw [List.length_set]; exact h.len, (heap_setCell_same w b (2 + i) _ _ (.int .i64 x) h.blk).trans ?_⟩
  have : 2 + i = i + 1 + 1 := by omega
  simp [wcells, this, List.map_set]
theorem WB.drew {w : World} {b : Nat} {s : Bool} {n : Int} {ws : List Int} (h : WB w b s n ws) : WB w.drew b s n ws := ⟨h.len, h.blk⟩
theorem WB.drewN {w : World} {b : Nat} {s : Bool} {n : Int} {ws : List Int} (h : WB w b s n ws) (k : Nat) : WB (w.drewN k) b s n ws := ⟨h.len, h.blk⟩
theorem WB.kept {w w' : World} {b : Nat} {s : Bool} {n : Int} {ws : List Int} {r : Option Nat} (h : WB w b s n ws) (hg : w.grownBy w' r) (hr : some b ≠ r) : WB w' b s n ws :=
  ⟨h.len, by rw [hg.block b h.lt hr]; exact h.blk⟩
theorem WB.later {w w' : World} {b : Nat} {s : Bool} {n : Int} {ws : List Int} {B : Nat} (h : WB w b s n ws) (hb : Below B w w') (hr : b < B) : WB w' b s n ws :=
  ⟨h.len, by rw [hb.block b hr]; exact h.blk⟩

theorem gb_refl (w : World) (r : Option Nat) : w.grownBy w r := ⟨rfl, rfl, rfl, Nat.le_refl _, fun _ _ _ => rfl⟩
theorem gb_drewN {w w' : World} {r : Option Nat} (h : w.grownBy w' r) (k : Nat) : w.grownBy (w'.drewN k) r := ⟨h.os, h.tape, h.output, h.size, h.block⟩
theorem gb_drew {w w' : World} {r : Option Nat} (h : w.grownBy w' r) : w.grownBy w'.drew r := ⟨h.os, h.tape, h.output, h.size, h.block⟩
theorem gb_set {w w' : World} {b : Nat} (h : w.grownBy w' (some b)) (o : Nat) (v : Value) : w.grownBy (w'.setCell ⟨b, o, none⟩ v) (some b) := by
  refine ⟨h.os, h.tape, h.output, by simpa [World.setCell] using h.size, fun k hk hne => ?_⟩
  rw [Below.heap_setCell _ _ _ _ (by rintro rfl; exact hne rfl)]
  exact h.block k hk hne
theorem gb_trans {a b c : World} {r : Option Nat} (h : a.grownBy b r) (k : b.grownBy c r) : a.grownBy c r :=
  ⟨k.os.trans h.os, k.tape.trans h.tape, k.output.trans h.output, Nat.le_trans h.size k.size, fun i hi hne => (k.block i (Nat.lt_of_lt_of_le hi h.size) hne).trans (h.block i hi hne)⟩
theorem gb_below {w w' : World} {b B : Nat} (h : w.grownBy w' (some b)) (hB : B ≤ b) (hs : B ≤ w.heap.size) : Below B w w' :=
  ⟨h.os, h.tape, h.output, h.size, fun k hk => h.block k (by omega) (by rintro ⟨⟩; omega)⟩

/-- BLOCK b HOLDS THE MAGNITUDE m, with the sign s. -/
def CW (w : World) (b : Nat) (s : Bool) (m : Nat) : Prop := m < wmax ∧ WB w b s (wlen m) (wds m)
theorem CW.lt {w : World} {b : Nat} {s : Bool} {m : Nat} (h : CW w b s m) : b < w.heap.size := h.2.lt
theorem CW.kept {w w' : World} {b : Nat} {s : Bool} {m : Nat} {r : Option Nat} (h : CW w b s m) (hg : w.grownBy w' r) (hr : some b ≠ r) : CW w' b s m := ⟨h.1, h.2.kept hg hr⟩
theorem CW.later {w w' : World} {b : Nat} {s : Bool} {m B : Nat} (h : CW w b s m) (hb : Below B w w') (hr : b < B) : CW w' b s m := ⟨h.1, h.2.later hb hr⟩
theorem CW.wl {w : World} {b : Nat} {s : Bool} {m : Nat} (h : CW w b s m) : wlen m ≤ 232 := wmax_le.1 h.1

theorem WB.canon {w : World} {b : Nat} {s : Bool} {k m : Nat} {ws : List Int} (h : WB w b s k ws) (hk : k ≤ 232) (hok : okW ws) (hz : zeroFrom ws k) (hm : wval ws = m)
    (hl : ∀ j (hj : j < ws.length), k = j + 1 → ws[j] ≠ 0) : CW w b s m := by
  obtain ⟨m', e1, e2, e3⟩ := words_are h.len hok
  obtain rfl : m' = m := by omega
  have e4 := wlen_of hok hz (by rw [h.len]; exact hk) hm hl
  refine ⟨e2, ?_⟩
  rw [← e3, e4]; exact h

/-- What a call that changes block b alone does. -/
def Chg (w : World) (b : Nat) (s : Bool) (m : Nat) (v : Value) (e : Ending) (w' : World) : Prop := e = .returned v ∧ CW w' b s m ∧ w.grownBy w' (some b)

set_option maxRecDepth 100000 in
set_option maxHeartbeats 2000000 in
theorem trimmed_c (b : Nat) (s : Bool) (n m : Nat) (ws : List Int) (w : World) (h : WB w b s n ws) (hn : n ≤ 232) (hok : okW ws) (hz : zeroFrom ws n) (hm : wval ws = m) :
    Calls Tryz.prog 99 #[.pointer (some ⟨b, 0, none⟩)] w (Chg w b s m (.pointer (some ⟨b, 0, none⟩))) := by
  have hlen := h.len
  have HOK := Lib.hid hok; have HZ := Lib.hid hz; have HM := Lib.hid hm; have HLEN := Lib.hid hlen
  clear hok hz hm hlen
  go_enter Tryz.func99, Tryz.ntmps99
  go_wp2_with fail
  go_loopw [3] (fun _ wr => ∃ k : Nat, k ≤ 232 ∧ WB wr b s k ws ∧ Hid (zeroFrom ws k) ∧ w.grownBy wr (some b)) (fun _ wr => (intOf ((wr.cell? ⟨b, 1, none⟩).getD undef)).toNat)
  case atStart => exact ⟨n, hn, h, HZ.out, gb_refl _ _⟩
  case round =>
    clear h HZ hn
    obtain ⟨k, hk, hW, hz, hG⟩ := hrel
    have hc1 := hW.c1
    have hf1 := hW.free 1
    by_cases h0 : 1 ≤ k
    · obtain ⟨j, rfl⟩ : ∃ j, k = j + 1 := ⟨k - 1, by omega⟩
      have hjl : j < ws.length := by have := HLEN.out; omega
      have hcw := hW.cw hjl
      have hlj : (j : Int) < 232 := by omega
      have hj2 : j < 232 := by omega
      have hg : (0 : Int) < (j : Int) + 1 := by omega
      obtain ⟨x, hx⟩ : ∃ x, ws[j] = x := ⟨_, rfl⟩
      rw [hx] at hcw
      have HX := Lib.hid hx
      clear hx
      rw [show ((j + 1 : Nat) : Int) = (j : Int) + 1 by omega] at hc1
      by_cases hx0 : x = 0
      · subst hx0
        go_wp2_with fail
        go_quiet (fail)
        go_wp2
        go_roundw
        case rel => exact ⟨j, by omega, (hW.drewN nq).set1 j (by go_num), zeroFrom_pred hz.out hjl HX.out, gb_set (gb_drewN hG nq) 1 _⟩
        case measure =>
          rw [((hW.drewN nq).set1 j (by go_num)).c1, hc1]
          simp [intOf]
      · have hxb : (x == 0) = false := by simpa using hx0
        go_wp2_with fail
        go_quiet (fail)
        go_wp2
        go_ret
        refine ⟨rfl, (hW.drewN nq).canon hk HOK.out hz.out HM.out ?_, gb_drewN hG nq⟩
        intro i hi e
        obtain rfl : i = j := by omega
        rw [HX.out]; exact hx0
    · obtain rfl : k = 0 := by omega
      have hd : decide ((0 : Int) < 0) = false := by decide
      go_wp2_with fail
      go_quiet (fail)
      go_wp2
      go_ret
      exact ⟨rfl, (hW.drewN nq).canon hk HOK.out hz.out HM.out (fun i hi e => by omega), gb_drewN hG nq⟩
end Go.Proofs.Wk
/- THE PROGRAM's MAGNITUDES: a multiple of one is added to another one. -/
namespace Go.Proofs.Wk
open Go.RowKit Mt

set_option maxRecDepth 100000 in
set_option maxHeartbeats 8000000 in
theorem carry_c (bx bz : Nat) (sx sy : Bool) (X Y T : Nat) (f : Int) (up : Nat) (w : World) (hx : CW w bx sx X) (hy : CW w bz sy Y) (hne : bx ≠ bz)
    (hf0 : -1000000000 < f) (hf1 : f < 1000000000) (hup : wlen Y + up ≤ 232) (hT : (X : Int) + f * 1000000000 ^ up * Y = T) (hTm : T < wmax) :
    Calls Tryz.prog 100 #[.pointer (some ⟨bx, 0, none⟩), .pointer (some ⟨bz, 0, none⟩), .int .i64 f, .int .i64 (up : Int)] w (Chg w bx sx T (.tuple #[])) := by
  obtain ⟨hXm, hxW⟩ := hx
  obtain ⟨hYm, hyW⟩ := hy
  have hXl := wmax_le.1 hXm
  have hzx := wds_zero hXm
  obtain ⟨ny, hny⟩ : ∃ ny, wlen Y = ny := ⟨_, rfl⟩
  rw [hny] at hyW hup
  have HNY := Lib.hid hny; have HT := Lib.hid hT; have HTM := Lib.hid hTm; have HXM := Lib.hid hXm; have HYM := Lib.hid hYm; have HNE := Lib.hid hne; have HYW := Lib.hid hyW
  clear hny hT hTm hXm hYm hne hyW
  have hup2 : up ≤ 232 := by omega
  go_enter Tryz.func100, Tryz.ntmps100
  go_wp2_with fail
  go_loopw [8, 9] (fun sr si wr => ∃ (i : Nat) (rest : Int) (k : Nat) (ws : List Int), sr = .int .i64 rest ∧ si = .int .i64 i ∧ -3000000001 ≤ rest ∧ rest ≤ 3000000001 ∧ i + up ≤ 232 ∧ WB wr bx sx k ws ∧ k ≤ 232 ∧ Hid (okW ws) ∧ Hid (zeroFrom ws k) ∧ Hid (AddAt X Y f up ws i rest) ∧ w.grownBy wr (some bx)) (fun _ si _ => 1000 - (intOf si).toNat)
  case atStart => exact ⟨0, 0, wlen X, wds X, rfl, rfl, by omega, by omega, by omega, hxW, hXl, wds_ok X, hzx, add_start X Y f up HXM.out, gb_refl _ _⟩
  case round =>
    clear hxW hXl hzx
    obtain ⟨i, rest, k, ws, rfl, rfl, hr0, hr1, hiu, hW, hk, hok, hz, hA, hG⟩ := hrel
    have hyW2 := HYW.out.kept hG (by intro e; exact HNE.out (Option.some.inj e).symm)
    have hcy := hyW2.c1
    have key : (i < ny ∧ True) ∨ (¬ i < ny ∧ rest ≠ 0) ∨ (¬ i < ny ∧ rest = 0) := by
      by_cases a : i < ny
      · exact .inl ⟨a, trivial⟩
      · by_cases b : rest = 0
        · exact .inr (.inr ⟨a, b⟩)
        · exact .inr (.inl ⟨a, b⟩)
    have hroom : (i < ny ∨ rest ≠ 0) → i + up < 232 := by
      intro h
      by_cases a : i < ny
      · omega
      · have h0 : rest ≠ 0 := h.resolve_left a
        exact add_room (add_end hA.out HYM.out (by rw [HNY.out]; omega) HT.out) hW.len hok.out HTM.out h0
    rcases key with ⟨hlt, _⟩ | ⟨hge, hrn⟩ | ⟨hge, hr⟩
    · have hroom2 := hroom (.inl hlt)
      clear hroom
      have hil : i + up < ws.length := by rw [hW.len]; exact hroom2
      have hiy : i < (wds Y).length := by rw [wds_length]; omega
      have hcx := hW.cw hil
      have hcyw := hyW2.cw hiy
      rw [wat_get hiy] at hcyw
      have hyb := wat_bd Y i
      obtain ⟨y, hyy⟩ : ∃ y, wat Y i = y := ⟨_, rfl⟩
      rw [hyy] at hcyw hyb
      have HY := Lib.hid hyy; clear hyy
      obtain ⟨hy0, hy1⟩ := hyb
      obtain ⟨hv0, hv1⟩ := okW_at hok.out hil
      obtain ⟨v, hv⟩ : ∃ v, ws[i + up] = v := ⟨_, rfl⟩
      rw [hv] at hcx hv0 hv1
      have HV := Lib.hid hv; clear hv
      have hfy : -1000000000000000000 ≤ f * y ∧ f * y ≤ 1000000000000000000 := by
        have a1 : f * y ≤ 1000000000 * y := Int.mul_le_mul_of_nonneg_right (by omega) hy0
        have a2 : -1000000000 * y ≤ f * y := Int.mul_le_mul_of_nonneg_right (by omega) hy0
        omega
      obtain ⟨hfy0, hfy1⟩ := hfy
      obtain ⟨q, hq, hq0, hq1, hqd⟩ := base_div (v + rest + f * y) (by omega) (by omega)
      have hix : ((i : Int) + (up : Int)).toNat = i + up := by omega
      have hlx : i + up < 232 := hroom2
      have hf1x := hW.free 1
      have hfwx := hW.free (2 + (i + up))
      have hc1x := hW.c1
      go_upto_if 56 with fail
      go_cut [8, 10] (fun s8 s10 wx => ∃ q' d : Int, s8 = .int .i64 q' ∧ s10 = .int .i64 d ∧ (v + rest + f * y) = q' * 1000000000 + d ∧ 0 ≤ d ∧ d < 1000000000 ∧ -3000000001 ≤ q' ∧ q' ≤ 3000000000 ∧ wr = wx)
      case first =>
        clear hA hok hz HV
        rcases hqd with ⟨hd0, hd1⟩ | ⟨hd0, hd1⟩
        · have hd2 : ¬ (v + rest + f * y) - q * 1000000000 < 0 := by omega
          go_wp2_with fail
          all_goals go_meet
          exact ⟨q, (v + rest + f * y) - q * 1000000000, rfl, rfl, by omega, hd0, hd1, by omega, by omega, rfl⟩
        · go_wp2_with fail
          all_goals go_meet
          exact ⟨q - 1, (v + rest + f * y) - q * 1000000000 + 1000000000, rfl, rfl, by omega, by omega, by omega, by omega, by omega, rfl⟩
      case rest =>
        obtain ⟨q', d, rfl, rfl, hs, hd0, hd1, hq0', hq1', rfl⟩ := hcut
        have hA2 := add_step hA.out hil v q' d HV.out (by rw [HY.out]; exact hs)
        have HA2 := Lib.hid hA2
        have hW2 := hW.setw (i + up) d rfl
        have hcx1 := hW2.c1
        have hfx1 := hW2.free 1
        clear hA hs hq hqd hq0 hq1 hA2
        by_cases hkk : k ≤ i + up
        · go_wp2
          go_roundw
          case rel =>
            exact ⟨i + 1, q', i + up + 1, _, rfl, by go_num, by omega, by omega, by omega, hW2.set1 _ (by go_num), by omega, okW_set hok.out _ hd0 hd1, zeroFrom_set (zeroFrom_mono hz.out (by omega)) (by omega) _, HA2.out, gb_set (gb_set hG _ _) _ _⟩
          case measure => simp [intOf]; omega
        · go_wp2
          go_roundw
          case rel =>
            exact ⟨i + 1, q', k, _, rfl, by go_num, by omega, by omega, by omega, hW2.set1 _ (by go_num), by omega, okW_set hok.out _ hd0 hd1, zeroFrom_set hz.out (by omega) _, HA2.out, gb_set (gb_set hG _ _) _ _⟩
          case measure => simp [intOf]; omega
    · have hroom2 := hroom (.inr hrn)
      clear hroom
      have hil : i + up < ws.length := by rw [hW.len]; exact hroom2
      have hcx := hW.cw hil
      have HY := Lib.hid (wat_zero (i := i) HYM.out (by rw [HNY.out]; omega))
      obtain ⟨hv0, hv1⟩ := okW_at hok.out hil
      obtain ⟨v, hv⟩ : ∃ v, ws[i + up] = v := ⟨_, rfl⟩
      rw [hv] at hcx hv0 hv1
      have HV := Lib.hid hv; clear hv
      have hrb : (rest != 0) = true := by rw [bne_iff_ne]; exact hrn
      obtain ⟨q, hq, hq0, hq1, hqd⟩ := base_div (v + rest) (by omega) (by omega)
      have hix : ((i : Int) + (up : Int)).toNat = i + up := by omega
      have hlx : i + up < 232 := hroom2
      have hf1x := hW.free 1
      have hfwx := hW.free (2 + (i + up))
      have hc1x := hW.c1
      go_upto_if 56 with fail
      go_cut [8, 10] (fun s8 s10 wx => ∃ q' d : Int, s8 = .int .i64 q' ∧ s10 = .int .i64 d ∧ (v + rest) = q' * 1000000000 + d ∧ 0 ≤ d ∧ d < 1000000000 ∧ -3000000001 ≤ q' ∧ q' ≤ 3000000000 ∧ wr = wx)
      case first =>
        clear hA hok hz HV
        rcases hqd with ⟨hd0, hd1⟩ | ⟨hd0, hd1⟩
        · have hd2 : ¬ (v + rest) - q * 1000000000 < 0 := by omega
          go_wp2_with fail
          all_goals go_meet
          exact ⟨q, (v + rest) - q * 1000000000, rfl, rfl, by omega, hd0, hd1, by omega, by omega, rfl⟩
        · go_wp2_with fail
          all_goals go_meet
          exact ⟨q - 1, (v + rest) - q * 1000000000 + 1000000000, rfl, rfl, by omega, by omega, by omega, by omega, by omega, rfl⟩
      case rest =>
        obtain ⟨q', d, rfl, rfl, hs, hd0, hd1, hq0', hq1', rfl⟩ := hcut
        have hA2 := add_step hA.out hil v q' d HV.out (by rw [HY.out, Int.mul_zero, Int.add_zero]; exact hs)
        have HA2 := Lib.hid hA2
        have hW2 := hW.setw (i + up) d rfl
        have hcx1 := hW2.c1
        have hfx1 := hW2.free 1
        clear hA hs hq hqd hq0 hq1 hA2
        by_cases hkk : k ≤ i + up
        · go_wp2
          go_roundw
          case rel =>
            exact ⟨i + 1, q', i + up + 1, _, rfl, by go_num, by omega, by omega, by omega, hW2.set1 _ (by go_num), by omega, okW_set hok.out _ hd0 hd1, zeroFrom_set (zeroFrom_mono hz.out (by omega)) (by omega) _, HA2.out, gb_set (gb_set hG _ _) _ _⟩
          case measure => simp [intOf]; omega
        · go_wp2
          go_roundw
          case rel =>
            exact ⟨i + 1, q', k, _, rfl, by go_num, by omega, by omega, by omega, hW2.set1 _ (by go_num), by omega, okW_set hok.out _ hd0 hd1, zeroFrom_set hz.out (by omega) _, HA2.out, gb_set (gb_set hG _ _) _ _⟩
          case measure => simp [intOf]; omega
    · subst hr
      have hend := add_end hA.out HYM.out (by rw [HNY.out]; omega) HT.out
      rw [Int.zero_mul, Int.add_zero] at hend
      have HE := Lib.hid hend
      clear hend hroom
      go_wp2_with fail
      refine (trimmed_c bx sx k T ws wr hW hk hok.out hz.out HE.out).mono ?_
      rintro e w2 ⟨rfl, hC, hG2⟩
      go_wp2
      go_end0
      exact ⟨rfl, hC, gb_trans hG hG2⟩
end Go.Proofs.Wk
/- THE PROGRAM's MAGNITUDES: which of two is the greater one; sums with signs; products. -/
namespace Go.Proofs.Wk
open Go.RowKit Mt

/-- What a comparison of magnitudes answers: an int that is at least 0 exactly if the second one is not beyond the first one. -/
def Bey (w : World) (X Y : Nat) (e : Ending) (w' : World) : Prop := ∃ d : Int, e = .returned (.int .i64 d) ∧ (Y ≤ X → 0 ≤ d) ∧ (X < Y → d < 0) ∧ ∃ k, w' = w.drewN k

theorem drewN_zero (w : World) : w = w.drewN 0 := by simp [World.drewN]

set_option maxRecDepth 100000 in
set_option maxHeartbeats 4000000 in
theorem beyond_c (bx bz : Nat) (sx sy : Bool) (X Y : Nat) (w : World) (hx : CW w bx sx X) (hy : CW w bz sy Y) :
    Calls Tryz.prog 130 #[.pointer (some ⟨bx, 0, none⟩), .pointer (some ⟨bz, 0, none⟩)] w (Bey w X Y) := by
  obtain ⟨hXm, hxW⟩ := hx
  obtain ⟨hYm, hyW⟩ := hy
  have hXl := wmax_le.1 hXm
  have hYl := wmax_le.1 hYm
  obtain ⟨nx, hnx⟩ : ∃ n, wlen X = n := ⟨_, rfl⟩
  obtain ⟨ny, hny⟩ : ∃ n, wlen Y = n := ⟨_, rfl⟩
  rw [hnx] at hxW hXl
  rw [hny] at hyW hYl
  have HXW := Lib.hid hxW; have HYW := Lib.hid hyW
  have hcx := hxW.c1
  have hcy := hyW.c1
  have HXM := Lib.hid hXm; have HYM := Lib.hid hYm; have HNX := Lib.hid hnx; have HNY := Lib.hid hny
  clear hxW hyW hXm hYm hnx hny
  by_cases hne : nx = ny
  · subst hne
    go_enter Tryz.func130, Tryz.ntmps130
    go_wp2_with fail
    go_quiet (fail)
    go_wp2_with fail
    go_loopw [5] (fun si wr => ∃ k q : Nat, si = .int .i64 ((k : Int) - 1) ∧ k ≤ nx ∧ Hid (wsuf X k = wsuf Y k) ∧ wr = w.drewN q) (fun si _ => (intOf si + 1).toNat)
    case atStart =>
      refine ⟨nx, nq, rfl, Nat.le_refl _, ?_, rfl⟩
      show _ = _
      rw [wsuf_zero HXM.out (by rw [HNX.out]; exact Nat.le_refl _), wsuf_zero HYM.out (by rw [HNY.out]; exact Nat.le_refl _)]
    case round =>
      obtain ⟨k, q, rfl, hk, hs, rfl⟩ := hrel
      by_cases h0 : 1 ≤ k
      · obtain ⟨i, rfl⟩ : ∃ i, k = i + 1 := ⟨k - 1, by omega⟩
        rw [show (((i + 1 : Nat) : Int) - 1) = (i : Int) by omega]
        have hiy : i < (wds Y).length := by rw [wds_length]; omega
        have hix : i < (wds X).length := by rw [wds_length]; omega
        have hcwx := HXW.out.cw hix
        have hcwy := HYW.out.cw hiy
        rw [wat_get hix] at hcwx
        rw [wat_get hiy] at hcwy
        have hi232 : (i : Int) < 232 := by omega
        have hi232' : i < 232 := by omega
        have bx1 := wat_bd X i
        have by1 := wat_bd Y i
        have hhl := @high_lt X Y i HXM.out HYM.out (by omega) hs.out
        have hhg := @high_lt Y X i HYM.out HXM.out (by omega) hs.out.symm
        have hhe := @high_eq X Y i (by omega) hs.out
        generalize wat X i = xi at *
        generalize wat Y i = yi at *
        have HL := Lib.hid hhl; have HG := Lib.hid hhg; have HE := Lib.hid hhe
        clear hhl hhg hhe hs
        obtain ⟨bx10, bx11⟩ := bx1
        obtain ⟨by10, by11⟩ := by1
        by_cases hxy : xi = yi
        · subst hxy
          go_wp2_with fail
          go_quiet (fail)
          go_wp2_with fail
          go_roundw
          case rel => exact ⟨i, q + nq, by go_num, by omega, HE.out (by first | rfl | trivial), by first | rfl | exact World.drewN_drewN _ _ _⟩
          case measure => simp [intOf]
        · have hxyb : (xi != yi) = true := by rw [bne_iff_ne]; exact hxy
          have HXY := Lib.hid hxy
          clear hxy
          go_wp2_with fail
          go_quiet (fail)
          go_wp2_with fail
          go_quiet (fail)
          go_wp2
          go_ret
          refine ⟨xi - yi, rfl, fun h => ?_, fun h => ?_, _, by rw [World.drewN_drewN, World.drewN_drewN]⟩
          · have h1 := HXY.out
            rcases Int.lt_or_lt_of_ne h1 with h2 | h2
            · have := HL.out h2; omega
            · omega
          · have h1 := HXY.out
            rcases Int.lt_or_lt_of_ne h1 with h2 | h2
            · omega
            · have := HG.out h2; omega
      · obtain rfl : k = 0 := by omega
        go_wp2
        go_ret
        have := all_eq HXM.out HYM.out hs.out
        exact ⟨0, rfl, fun _ => Int.le_refl _, fun h => by omega, q, rfl⟩
  · have hneb : ((nx : Int) != (ny : Int)) = true := by rw [bne_iff_ne]; omega
    go_enter Tryz.func130, Tryz.ntmps130
    go_wp2_with fail
    go_quiet (fail)
    go_wp2_with fail
    go_quiet (fail)
    go_wp2
    go_ret
    have e1 := HNX.out
    have e2 := HNY.out
    refine ⟨nx - ny, rfl, fun h => ?_, fun h => ?_, _, by rw [World.drewN_drewN]⟩
    · have := wlen_mono h; omega
    · have := wlen_mono (Nat.le_of_lt h); omega

/-! ### sums with signs -/
/-- The sign bit and the magnitude of an integer. -/
def IW (w : World) (b : Nat) (n : Int) : Prop := ∃ s, CW w b s n.natAbs ∧ (n ≠ 0 → s = decide (n < 0))

theorem wcells_len {s : Bool} {n : Int} {ws : List Int} (h : ws.length = 232) : (wcells s n ws).toArray.size = 234 := by simp [wcells, h]
theorem info_wide : (Tryz.prog.info? 160).map (·.size) = some 234 := by kernel_rfl
theorem wcells_one (s : Bool) (n : Int) (ws : List Int) : ∀ v ∈ wcells s n ws, v.oneCell' = true := by
  intro v hv
  simp only [wcells, List.mem_cons, List.mem_map] at hv
  rcases hv with rfl | rfl | ⟨x, _, rfl⟩ <;> rfl

end Go.Proofs.Wk
/- THE PROGRAM's MAGNITUDES: sums with signs; products. -/
namespace Go.Proofs.Wk
open Go.RowKit Mt

/-- The sum of two integers, as sign and magnitude. -/
def addS (sx : Bool) (X : Nat) (sy : Bool) (Y : Nat) : Bool × Nat := if sx = sy then (sx, X + Y) else if Y ≤ X then (sx, X - Y) else (sy, Y - X)

theorem CW.drewN {w : World} {b : Nat} {s : Bool} {m : Nat} (h : CW w b s m) (k : Nat) : CW (w.drewN k) b s m := ⟨h.1, h.2.drewN k⟩
theorem setRow_gb {w w0 : World} {g : Nat} (h : w0.grownBy w (some g)) (cs : Array Value) : w0.grownBy (w.setRow g cs) (some g) := by
  refine ⟨h.os, h.tape, h.output, by rw [size_setRow]; exact h.size, fun k hk hne => ?_⟩
  rw [setRow_other _ _ _ _ (by rintro rfl; exact hne rfl)]
  exact h.block k hk hne
theorem gb_alloc {w w' : World} {r : Option Nat} (h : w.grownBy w' r) (o : Obj) : w.grownBy (w'.alloc o) r :=
  gb_trans h (World.grownBy_alloc w' o r)
theorem gb_other {w w' w2 : World} {r : Option Nat} {g : Nat} (h : w.grownBy w' r) (k : w'.grownBy w2 (some g)) (hg : w.heap.size ≤ g) : w.grownBy w2 r :=
  ⟨k.os.trans h.os, k.tape.trans h.tape, k.output.trans h.output, Nat.le_trans h.size k.size, fun i hi hne =>
    (k.block i (Nat.lt_of_lt_of_le hi h.size) (by rintro ⟨⟩; omega)).trans (h.block i hi hne)⟩

set_option maxRecDepth 100000 in
set_option maxHeartbeats 4000000 in
theorem plus_c (bx bz : Nat) (sx sy : Bool) (X Y : Nat) (w : World) (hx : CW w bx sx X) (hy : CW w bz sy Y) (hne : bx ≠ bz) (hs : X + Y < wmax) :
    Calls Tryz.prog 152 #[.pointer (some ⟨bx, 0, none⟩), .pointer (some ⟨bz, 0, none⟩)] w (Chg w bx (addS sx X sy Y).1 (addS sx X sy Y).2 (.tuple #[])) := by
  have h0x := hx.2.c0
  have h0y := hy.2.c0
  by_cases hss : sx = sy
  · subst hss
    have e : addS sx X sx Y = (sx, X + Y) := by unfold addS; rw [if_pos rfl]
    rw [e]
    clear e
    have HX := Lib.hid hx; have HY := Lib.hid hy; have HNE := Lib.hid hne
    clear hx hy hne
    have hb : (sx == sx) = true := by simp
    go_enter Tryz.func152, Tryz.ntmps152
    go_wp2_with fail
    go_quiet (fail)
    go_wp2_with fail
    refine (carry_c bx bz sx sx X Y (X + Y) 1 0 (w.drewN nq) (HX.out.drewN nq) (HY.out.drewN nq) HNE.out (by omega) (by omega) (by have := HY.out.wl; omega) (by simp) hs).mono ?_
    rintro e w1 ⟨rfl, hC, hG⟩
    go_wp2
    go_end0
    exact ⟨rfl, hC, gb_trans (gb_drewN (gb_refl _ _) nq) hG⟩
  · have hb : (sx == sy) = false := by simpa using hss
    by_cases hge : Y ≤ X
    · have e : addS sx X sy Y = (sx, X - Y) := by unfold addS; rw [if_neg hss, if_pos hge]
      rw [e]
      clear e hss
      have HX := Lib.hid hx; have HY := Lib.hid hy; have HNE := Lib.hid hne
      clear hx hy hne
      go_enter Tryz.func152, Tryz.ntmps152
      go_wp2_with fail
      go_quiet (fail)
      go_wp2_with fail
      refine (beyond_c bx bz sx sy X Y (w.drewN nq) (HX.out.drewN nq) (HY.out.drewN nq)).mono ?_
      rintro e w1 ⟨d, rfl, hd, _, k, rfl⟩
      have hd2 := hd hge
      clear hd
      go_wp2_with fail
      refine (carry_c bx bz sx sy X Y (X - Y) (-1) 0 _ (HX.out.drewN _) (HY.out.drewN _) HNE.out (by omega) (by omega) (by have := HY.out.wl; omega) (by simp; omega) (by omega)).mono ?_
      rintro e w1 ⟨rfl, hC, hG⟩
      go_wp2
      go_end0
      exact ⟨rfl, hC, gb_trans (gb_drewN (gb_refl _ _) _) hG⟩
    · have e : addS sx X sy Y = (sy, Y - X) := by unfold addS; rw [if_neg hss, if_neg hge]
      rw [e]
      clear e hss
      have hylt := hy.lt
      have HX := Lib.hid hx; have HY := Lib.hid hy; have HNE := Lib.hid hne
      clear hx hy hne
      go_enter Tryz.func152, Tryz.ntmps152
      go_wp2_with fail
      go_quiet (fail)
      go_wp2_with fail
      refine (beyond_c bx bz sx sy X Y (w.drewN nq) (HX.out.drewN nq) (HY.out.drewN nq)).mono ?_
      rintro e w1 ⟨d, rfl, _, hd, k, rfl⟩
      have hd2 := hd (by omega)
      clear hd
      have hYb : (w.drewN (nq + k)).heap[bz]? = some (.cells (wcells sy (wlen Y) (wds Y)).toArray 160 (0, 0)) := HY.out.2.blk
      have HYB := Lib.hid hYb
      clear hYb
      have hz0 : ((w.drewN (nq + k)).alloc (.cells Tryz.zeroCells160 160)).heap[w.heap.size]? = some (.cells Tryz.zeroCells160 160 (0, 0)) := heap_alloc_new (w.drewN (nq + k)) _
      have HZ0 := Lib.hid hz0
      clear hz0
      have hsz : (Tryz.prog.info? 160).map (·.size) = some (wcells sy (wlen Y) (wds Y)).toArray.size := by rw [wcells_len (wds_length Y)]; exact info_wide
      have hone : (wcells sy (wlen Y) (wds Y)).toArray.all (·.oneCell') = true := by
        rw [Array.all_eq_true_iff_forall_mem]; intro v hv; exact wcells_one _ _ _ v (by simpa using hv)
      have HSZ := Lib.hid hsz; have HONE := Lib.hid hone
      clear hsz hone
      have hzl : Tryz.zeroCells160.size = (wcells sy (wlen Y) (wds Y)).toArray.size := by rw [wcells_len (wds_length Y)]; kernel_rfl
      have HZL := Lib.hid hzl
      clear hzl
      go_wp2_with (first | (refine wpList_load_row rfl 160 _ rfl bz rfl 160 (wcells sy (wlen Y) (wds Y)).toArray (0, 0) _ HYB.out Tryz.underlying160 rfl HSZ.out ?_) | (refine wpList_store_row rfl 160 _ _ rfl w.heap.size (wcells sy (wlen Y) (wds Y)).toArray rfl rfl 160 _ HZ0.out HSZ.out HZL.out HONE.out ?_))
      obtain ⟨W4, hW4⟩ : ∃ W4, W4 = (((w.drewN (nq + k)).alloc (.cells Tryz.zeroCells160 160)).setRow w.heap.size (wcells sy (wlen Y) (wds Y)).toArray) := ⟨_, rfl⟩
      have hG4 : w.grownBy W4 none := by
        rw [hW4]
        exact gb_other (g := w.heap.size) (gb_alloc (gb_drewN (gb_refl w none) (nq + k)) (.cells Tryz.zeroCells160 160)) (setRow_gb (gb_refl _ _) _) (Nat.le_refl _)
      have hz4 : CW W4 w.heap.size sy Y := ⟨HY.out.1, wds_length Y, by rw [hW4]; exact setRow_heap _ _ _ _ _ _ HZ0.out⟩
      have hx4 : CW W4 bx sx X := HX.out.kept hG4 (by simp)
      have hsz4 : w.heap.size < W4.heap.size := hz4.lt
      rw [← hW4]
      have hxlt := HX.out.lt
      have HG4 := Lib.hid hG4; have HZ4 := Lib.hid hz4; have HX4 := Lib.hid hx4
      clear hG4 hz4 hx4 hW4
      refine (carry_c w.heap.size bx sy sx Y X (Y - X) (-1) 0 W4 HZ4.out HX4.out (by omega) (by omega) (by omega) (by have := HX.out.wl; omega) (by simp; omega) (by omega)).mono ?_
      rintro e w1 ⟨rfl, hC, hG⟩
      have hCb := hC.2.blk
      have hXb := (HX4.out.kept hG (by intro e; have := Option.some.inj e; omega)).2.blk
      have HCB := Lib.hid hCb; have HXB := Lib.hid hXb; have HC := Lib.hid hC; have HG := Lib.hid hG
      clear hCb hXb hC hG
      have hsz : (Tryz.prog.info? 160).map (·.size) = some (wcells sy (wlen (Y - X)) (wds (Y - X))).toArray.size := by rw [wcells_len (wds_length _)]; exact info_wide
      have hone : (wcells sy (wlen (Y - X)) (wds (Y - X))).toArray.all (·.oneCell') = true := by
        rw [Array.all_eq_true_iff_forall_mem]; intro v hv; exact wcells_one _ _ _ v (by simpa using hv)
      have HSZ2 := Lib.hid hsz; have HONE2 := Lib.hid hone
      clear hsz hone
      have hzl : (wcells sx (wlen X) (wds X)).toArray.size = (wcells sy (wlen (Y - X)) (wds (Y - X))).toArray.size := by rw [wcells_len (wds_length _), wcells_len (wds_length _)]
      have HZL2 := Lib.hid hzl
      clear hzl
      go_wp2_with (first | (refine wpList_load_row rfl 160 _ rfl w.heap.size rfl 160 (wcells sy (wlen (Y - X)) (wds (Y - X))).toArray (0, 0) _ HCB.out Tryz.underlying160 rfl HSZ2.out ?_) | (refine wpList_store_row rfl 160 _ _ rfl bx (wcells sy (wlen (Y - X)) (wds (Y - X))).toArray rfl rfl 160 _ HXB.out HSZ2.out HZL2.out HONE2.out ?_))
      go_end0
      have hgg : w.grownBy w1 (some bx) := gb_other (g := w.heap.size) (gb_trans (gb_refl w (some bx)) ⟨HG4.out.os, HG4.out.tape, HG4.out.output, HG4.out.size, fun i hi _ => HG4.out.block i hi (by simp)⟩) HG.out (Nat.le_refl _)
      exact ⟨rfl, ⟨HC.out.1, wds_length _, setRow_heap _ _ _ _ _ _ HXB.out⟩, setRow_gb hgg _⟩

/-! ### products -/
theorem zero_list : Tryz.zeroCells160 = (wcells false 0 (List.replicate 232 0)).toArray := by kernel_rfl
theorem zero_cells : Tryz.zeroCells160 = (wcells false 0 (wds 0)).toArray := by
  have : wds 0 = List.replicate 232 0 := by
    have h := words_unique (List.replicate 232 0) (by intro d hd; rw [List.eq_of_mem_replicate hd]; omega)
    rw [wval_zeros, List.length_replicate] at h
    rw [wds_def]; exact h.symm
  rw [this]; exact zero_list
theorem zero_max : 0 < wmax := by rw [wmax_le, wlen_zero]; omega
theorem CW.zero (w : World) : CW (w.alloc (.cells Tryz.zeroCells160 160)) w.heap.size false 0 := by
  refine ⟨zero_max, wds_length 0, (heap_alloc_new w _).trans ?_⟩
  rw [zero_cells, wlen_zero]; rfl
/-- A call that makes a new magnitude. -/
def NewW (w : World) (s : Bool) (m : Nat) (e : Ending) (w' : World) : Prop := ∃ g, e = .returned (.pointer (some ⟨g, 0, none⟩)) ∧ w.heap.size ≤ g ∧ CW w' g s m ∧ Below w.heap.size w w'

theorem times_room {X Y i : Nat} (h : X * Y < wmax) (hi : i < wlen Y) (hX : wlen X ≤ 232) (hY : wlen Y ≤ 232) : wlen X + i ≤ 232 := by
  by_cases h0 : X = 0
  · subst h0; rw [wlen_zero]; omega
  · by_cases h1 : Y = 0
    · subst h1; rw [wlen_zero] at hi; omega
    · have a := wpow_le h0
      have b := wpow_le h1
      have c := Nat.mul_le_mul a b
      rw [← Nat.pow_add] at c
      rw [wmax_le, wlen_le] at h
      rcases Nat.lt_or_ge (wlen X - 1 + (wlen Y - 1)) 232 with h2 | h2
      · omega
      · have : 1000000000 ^ 232 ≤ 1000000000 ^ (wlen X - 1 + (wlen Y - 1)) := Nat.pow_le_pow_right (by omega) h2
        omega
theorem wpre_le {Y i : Nat} (hY : Y < wmax) (hi : i ≤ 232) : wpre Y i ≤ Y := by
  have := wsplit Y i hY hi
  have h2 := wsuf_bd Y i
  have : (0 : Int) ≤ 1000000000 ^ i * wsuf Y i := Int.mul_nonneg (Int.pow_nonneg (by omega)) h2
  omega

set_option maxRecDepth 100000 in
set_option maxHeartbeats 4000000 in
theorem times_c (bx bz : Nat) (sx sy : Bool) (X Y : Nat) (w : World) (hx : CW w bx sx X) (hy : CW w bz sy Y) (hm : X * Y < wmax) :
    Calls Tryz.prog 64 #[.pointer (some ⟨bx, 0, none⟩), .pointer (some ⟨bz, 0, none⟩)] w (NewW w (sx != sy) (X * Y)) := by
  have h0x := hx.2.c0
  have h0y := hy.2.c0
  have h1y := hy.2.c1
  have hxl := hx.lt
  have hyl := hy.lt
  have HX := Lib.hid hx; have HY := Lib.hid hy; have HM := Lib.hid hm
  clear hx hy hm
  go_enter Tryz.func64, Tryz.ntmps64
  go_wp2_with fail
  go_region
  go_wp2_with fail
  obtain ⟨ny, hny⟩ : ∃ ny, wlen Y = ny := ⟨_, rfl⟩
  rw [hny]
  have HNY := Lib.hid hny
  rw [hny] at h1y
  have hnl : ny ≤ 232 := by have := HY.out.wl; omega
  clear hny
  go_loopw [22] (fun si wr => ∃ i : Nat, si = .int .i64 i ∧ i ≤ ny ∧ CW wr w.heap.size (sx != sy) (X * (wpre Y i).toNat) ∧ Below w.heap.size w wr) (fun si _ => ny - (intOf si).toNat)
  case atStart =>
    refine ⟨0, rfl, Nat.zero_le _, ?_, ((Below.refl _ _).alloc (Nat.le_refl _) _).drew⟩
    rw [wpre_zero, show X * Int.toNat 0 = 0 from Nat.mul_zero X]
    have := (CW.zero w)
    refine ⟨this.1, wds_length 0, ?_⟩
    refine (heap_alloc_new w _).trans ?_
    rw [zero_cells, wlen_zero]
    simp [wcells]
    cases sx <;> cases sy <;> rfl
  case round =>
    obtain ⟨i, rfl, hi, hC, hB⟩ := hrel
    by_cases hlt : i < ny
    · have hiy : i < (wds Y).length := by rw [wds_length]; omega
      have hyW := HY.out.later hB hyl
      have hxW := HX.out.later hB hxl
      have hcw := hyW.2.cw hiy
      rw [wat_get hiy] at hcw
      have hyb := wat_bd Y i
      have hps := wpre_succ Y i
      have hpb := wpre_bd Y i (by omega)
      have hple := @wpre_le Y (i + 1) HY.out.1 (by omega)
      obtain ⟨y, hy⟩ : ∃ y, wat Y i = y := ⟨_, rfl⟩
      rw [hy] at hcw hyb hps
      obtain ⟨hy0, hy1⟩ := hyb
      have hnn : 0 ≤ 1000000000 ^ i * y := Int.mul_nonneg (Int.pow_nonneg (by omega)) hy0
      have hT : ((X * (wpre Y i).toNat : Nat) : Int) + y * 1000000000 ^ i * X = ((X * (wpre Y (i + 1)).toNat : Nat) : Int) := by
        rw [Int.natCast_mul, Int.natCast_mul, Int.toNat_of_nonneg hpb.1, Int.toNat_of_nonneg (by omega), hps, Int.mul_add]
        congr 1
        rw [Int.mul_comm y, Int.mul_comm _ (X : Int)]
      have hTm : X * (wpre Y (i + 1)).toNat < wmax := by
        have h1 : X * (wpre Y (i + 1)).toNat ≤ X * Y := Nat.mul_le_mul_left _ (by omega)
        have h2 := HM.out
        omega
      have hroom := times_room HM.out (i := i) (by rw [HNY.out]; exact hlt) HX.out.wl HY.out.wl
      have HT := Lib.hid hT; have HTM := Lib.hid hTm; have HXW := Lib.hid hxW; have HC := Lib.hid hC
      have hi2 : (i : Int) < 232 := by omega
      have hi3 : i < 232 := by omega
      clear hy hps hpb hple hnn hT hTm hxW hyW hC
      go_wp2_with fail
      refine (carry_c w.heap.size bx (sx != sy) sx _ X _ y i wr HC.out HXW.out (by omega) (by omega) hy1 hroom HT.out HTM.out).mono ?_
      rintro e w1 ⟨rfl, hC1, hG1⟩
      have hB1 := hB.trans (gb_below hG1 (Nat.le_refl _) hB.size)
      go_wp2
      go_roundw
      case rel => exact ⟨i + 1, by go_num, by omega, hC1, hB1⟩
      case measure => simp [intOf]; omega
    · obtain rfl : i = ny := by omega
      rw [wpre_all HY.out.1 (by rw [HNY.out]; exact Nat.le_refl _)] at hC
      go_wp2
      go_ret
      exact ⟨w.heap.size, rfl, Nat.le_refl _, hC, hB⟩
end Go.Proofs.Wk
