/- THE PROGRAM's MAGNITUDES IN MEMORY: a block with a sign, a count and 232 words; words of 0 are left out; a multiple is added. -/
import Derived.Test.YtjljappilpkelaaGreatDoorBase
import Derived.Test.YtjljappilpkelaaGreatDoorMathW
namespace Go.Proofs.Wk
open Go.RowKit Mt

/-- The cells of a magnitude. -/
def wcells (s : Bool) (n : Int) (ws : List Int) : List Value := .bool s :: .int .i64 n :: ws.map (Value.int .i64)
/-- BLOCK b HOLDS the sign s, the count n and the words ws. -/
structure WB (w : World) (b : Nat) (s : Bool) (n : Int) (ws : List Int) : Prop where
  len : ws.length = 232
  blk : w.heap[b]? = some (.cells (wcells s n ws).toArray 73 (0, 0))
theorem WB.lt {w : World} {b : Nat} {s : Bool} {n : Int} {ws : List Int} (h : WB w b s n ws) : b < w.heap.size := (Array.getElem?_eq_some_iff.1 h.blk).1
theorem WB.c0 {w : World} {b : Nat} {s : Bool} {n : Int} {ws : List Int} (h : WB w b s n ws) : w.cell? ⟨b, 0, none⟩ = some (.bool s) := by
  rw [cell_of_row w b 0 _ _ _ h.blk]; rfl
theorem WB.c1 {w : World} {b : Nat} {s : Bool} {n : Int} {ws : List Int} (h : WB w b s n ws) : w.cell? ⟨b, 1, none⟩ = some (.int .i64 n) := by
  rw [cell_of_row w b 1 _ _ _ h.blk]; rfl
theorem WB.cw {w : World} {b : Nat} {s : Bool} {n : Int} {ws : List Int} (h : WB w b s n ws) {i : Nat} (hi : i < ws.length) : w.cell? ⟨b, 2 + i, none⟩ = some (.int .i64 ws[i]) := by
  rw [cell_of_row w b (2 + i) _ _ _ h.blk]
  have : 2 + i = i + 1 + 1 := by omega
  simp [wcells, this, hi]
theorem WB.free {w : World} {b : Nat} {s : Bool} {n : Int} {ws : List Int} (h : WB w b s n ws) (j : Nat) : w.frozen? ⟨b, j, none⟩ = false := frozen_of_row w b j _ _ h.blk
theorem WB.set1 {w : World} {b : Nat} {s : Bool} {n : Int} {ws : List Int} (h : WB w b s n ws) (n' : Int) {v : Value} (hv : v = .int .i64 n') : WB (w.setCell ⟨b, 1, none⟩ v) b s n' ws := by
  subst hv
  refine ⟨h.len, (heap_setCell_same w b 1 _ _ (.int .i64 n') h.blk).trans ?_⟩
  simp [wcells]
theorem WB.set0 {w : World} {b : Nat} {s : Bool} {n : Int} {ws : List Int} (h : WB w b s n ws) (s' : Bool) {v : Value} (hv : v = .bool s') : WB (w.setCell ⟨b, 0, none⟩ v) b s' n ws := by
  subst hv
  refine ⟨h.len, (heap_setCell_same w b 0 _ _ (.bool s') h.blk).trans ?_⟩
  simp [wcells]
theorem WB.setw {w : World} {b : Nat} {s : Bool} {n : Int} {ws : List Int} (h : WB w b s n ws) (i : Nat) (x : Int) {v : Value} (hv : v = .int .i64 x) : WB (w.setCell ⟨b, 2 + i, none⟩ v) b s n (ws.set i x) := by
  subst hv
  refine ⟨by rw [List.length_set]; exact h.len, (heap_setCell_same w b (2 + i) _ _ (.int .i64 x) h.blk).trans ?_⟩
  have : 2 + i = i + 1 + 1 := by omega
  simp [wcells, this, List.map_set]
theorem WB.drew {w : World} {b : Nat} {s : Bool} {n : Int} {ws : List Int} (h : WB w b s n ws) : WB w.drew b s n ws := ⟨h.len, h.blk⟩
theorem WB.drewN {w : World} {b : Nat} {s : Bool} {n : Int} {ws : List Int} (h : WB w b s n ws) (k : Nat) : WB (w.drewN k) b s n ws := ⟨h.len, h.blk⟩
theorem WB.kept {w w' : World} {b : Nat} {s : Bool} {n : Int} {ws : List Int} {r : Option Nat} (h : WB w b s n ws) (hg : w.grownBy w' r) (hr : some b ≠ r) : WB w' b s n ws :=
  ⟨h.len, by rw [hg.block b h.lt hr]; exact h.blk⟩
theorem WB.later {w w' : World} {b : Nat} {s : Bool} {n : Int} {ws : List Int} {B : Nat} (h : WB w b s n ws) (hb : Below B w w') (hr : b < B) : WB w' b s n ws :=
  ⟨h.len, by rw [hb.block b hr]; exact h.blk⟩

theorem gb_refl (w : World) (r : Option Nat) : w.grownBy w r := ⟨rfl, rfl, rfl, Nat.le_refl _, fun _ _ _ => rfl⟩
theorem gb_drewN {w w' : World} {r : Option Nat} (h : w.grownBy w' r) (k : Nat) : w.grownBy (w'.drewN k) r := ⟨h.os, h.tape, h.output, h.size, h.block⟩
theorem gb_drew {w w' : World} {r : Option Nat} (h : w.grownBy w' r) : w.grownBy w'.drew r := ⟨h.os, h.tape, h.output, h.size, h.block⟩
theorem gb_set {w w' : World} {b : Nat} (h : w.grownBy w' (some b)) (o : Nat) (v : Value) : w.grownBy (w'.setCell ⟨b, o, none⟩ v) (some b) := by
  refine ⟨h.os, h.tape, h.output, by simpa [World.setCell] using h.size, fun k hk hne => ?_⟩
  rw [Below.heap_setCell _ _ _ _ (by rintro rfl; exact hne rfl)]
  exact h.block k hk hne
theorem gb_trans {a b c : World} {r : Option Nat} (h : a.grownBy b r) (k : b.grownBy c r) : a.grownBy c r :=
  ⟨k.os.trans h.os, k.tape.trans h.tape, k.output.trans h.output, Nat.le_trans h.size k.size, fun i hi hne => (k.block i (Nat.lt_of_lt_of_le hi h.size) hne).trans (h.block i hi hne)⟩
theorem gb_below {w w' : World} {b B : Nat} (h : w.grownBy w' (some b)) (hB : B ≤ b) (hs : B ≤ w.heap.size) : Below B w w' :=
  ⟨h.os, h.tape, h.output, h.size, fun k hk => h.block k (by omega) (by rintro ⟨⟩; omega)⟩

/-- BLOCK b HOLDS THE MAGNITUDE m, with the sign s. -/
def CW (w : World) (b : Nat) (s : Bool) (m : Nat) : Prop := m < wmax ∧ WB w b s (wlen m) (wds m)
theorem CW.lt {w : World} {b : Nat} {s : Bool} {m : Nat} (h : CW w b s m) : b < w.heap.size := h.2.lt
theorem CW.kept {w w' : World} {b : Nat} {s : Bool} {m : Nat} {r : Option Nat} (h : CW w b s m) (hg : w.grownBy w' r) (hr : some b ≠ r) : CW w' b s m := ⟨h.1, h.2.kept hg hr⟩
theorem CW.later {w w' : World} {b : Nat} {s : Bool} {m B : Nat} (h : CW w b s m) (hb : Below B w w') (hr : b < B) : CW w' b s m := ⟨h.1, h.2.later hb hr⟩
theorem CW.wl {w : World} {b : Nat} {s : Bool} {m : Nat} (h : CW w b s m) : wlen m ≤ 232 := wmax_le.1 h.1

theorem WB.canon {w : World} {b : Nat} {s : Bool} {k m : Nat} {ws : List Int} (h : WB w b s k ws) (hk : k ≤ 232) (hok : okW ws) (hz : zeroFrom ws k) (hm : wval ws = m)
    (hl : ∀ j (hj : j < ws.length), k = j + 1 → ws[j] ≠ 0) : CW w b s m := by
  obtain ⟨m', e1, e2, e3⟩ := words_are h.len hok
  obtain rfl : m' = m := by omega
  have e4 := wlen_of hok hz (by rw [h.len]; exact hk) hm hl
  refine ⟨e2, ?_⟩
  rw [← e3, e4]; exact h

/-- What a call that changes block b alone does. -/
def Chg (w : World) (b : Nat) (s : Bool) (m : Nat) (v : Value) (e : Ending) (w' : World) : Prop := e = .returned v ∧ CW w' b s m ∧ w.grownBy w' (some b)

set_option maxRecDepth 100000 in
set_option maxHeartbeats 2000000 in
theorem trimmed_c (b : Nat) (s : Bool) (n m : Nat) (ws : List Int) (w : World) (h : WB w b s n ws) (hn : n ≤ 232) (hok : okW ws) (hz : zeroFrom ws n) (hm : wval ws = m) :
    Calls Tryz.prog 69 #[.pointer (some ⟨b, 0, none⟩)] w (Chg w b s m (.pointer (some ⟨b, 0, none⟩))) := by
  have hlen := h.len
  have HOK := Lib.hid hok; have HZ := Lib.hid hz; have HM := Lib.hid hm; have HLEN := Lib.hid hlen
  clear hok hz hm hlen
  go_enter Tryz.func69, Tryz.ntmps69
  go_wp2_with fail
  go_loopw [3] (fun _ wr => ∃ k : Nat, k ≤ 232 ∧ WB wr b s k ws ∧ Hid (zeroFrom ws k) ∧ w.grownBy wr (some b)) (fun _ wr => (intOf ((wr.cell? ⟨b, 1, none⟩).getD undef)).toNat)
  case atStart => exact ⟨n, hn, h, HZ.out, gb_refl _ _⟩
  case round =>
    clear h HZ hn
    obtain ⟨k, hk, hW, hz, hG⟩ := hrel
    have hc1 := hW.c1
    have hf1 := hW.free 1
    by_cases h0 : 1 ≤ k
    · obtain ⟨j, rfl⟩ : ∃ j, k = j + 1 := ⟨k - 1, by omega⟩
      have hjl : j < ws.length := by have := HLEN.out; omega
      have hcw := hW.cw hjl
      have hlj : (j : Int) < 232 := by omega
      have hj2 : j < 232 := by omega
      have hg : (0 : Int) < (j : Int) + 1 := by omega
      obtain ⟨x, hx⟩ : ∃ x, ws[j] = x := ⟨_, rfl⟩
      rw [hx] at hcw
      have HX := Lib.hid hx
      clear hx
      rw [show ((j + 1 : Nat) : Int) = (j : Int) + 1 by omega] at hc1
      by_cases hx0 : x = 0
      · subst hx0
        go_wp2_with fail
        go_quiet (fail)
        go_wp2
        go_roundw
        case rel => exact ⟨j, by omega, (hW.drewN nq).set1 j (by go_num), zeroFrom_pred hz.out hjl HX.out, gb_set (gb_drewN hG nq) 1 _⟩
        case measure =>
          rw [((hW.drewN nq).set1 j (by go_num)).c1, hc1]
          simp [intOf]
      · have hxb : (x == 0) = false := by simpa using hx0
        go_wp2_with fail
        go_quiet (fail)
        go_wp2
        go_ret
        refine ⟨rfl, (hW.drewN nq).canon hk HOK.out hz.out HM.out ?_, gb_drewN hG nq⟩
        intro i hi e
        obtain rfl : i = j := by omega
        rw [HX.out]; exact hx0
    · obtain rfl : k = 0 := by omega
      have hd : decide ((0 : Int) < 0) = false := by decide
      go_wp2_with fail
      go_quiet (fail)
      go_wp2
      go_ret
      exact ⟨rfl, (hW.drewN nq).canon hk HOK.out hz.out HM.out (fun i hi e => by omega), gb_drewN hG nq⟩
end Go.Proofs.Wk
