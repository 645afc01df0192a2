/- THE PROGRAM's MAGNITUDES: the quotient and the remainder: the law of one step. -/
import Derived.Test.YtjljappilpkelaaGreatDoorWhI
import Derived.Laws.CopyRow
namespace Go.Proofs.Wk
open Go.RowKit Mt

/-- The words, moved up by one place. -/
def upw (ws : List Int) (n : Nat) : List Int := ws.take 1 ++ ws.take n ++ ws.drop (1 + n)
theorem upw_length {ws : List Int} {n : Nat} (hl : ws.length = 232) (hn : n ≤ 231) : (upw ws n).length = 232 := by
  unfold upw; simp; omega
theorem upw_set {ws : List Int} {n : Nat} (hl : ws.length = 232) (hn : n ≤ 231) (hz : zeroFrom ws n) (x : Int) : (upw ws n).set 0 x = x :: ws.take 231 := by
  have h1 : ws.drop (1 + n) = List.replicate (231 - n) 0 := by
    rw [zeroFrom_drop (zeroFrom_mono hz (by omega)), hl]; congr 1; omega
  have h2 : ws.take 231 = ws.take n ++ List.replicate (231 - n) 0 := by
    have h3 : ws = ws.take n ++ ws.drop n := (List.take_append_drop n ws).symm
    have h4 : (ws.drop n).take (231 - n) = List.replicate (231 - n) 0 := by
      rw [zeroFrom_drop hz, hl, List.take_replicate, Nat.min_eq_left (by omega)]
    conv => lhs; rw [h3]
    rw [List.take_append, List.take_of_length_le (by simp; omega), List.length_take, Nat.min_eq_left (by omega), h4]
  have h5 : ws.take 1 = [ws[0]] := by
    match ws, hl with
    | a :: t, _ => rfl
  unfold upw
  rw [h1, h2, h5]
  rfl
theorem up_val {ws : List Int} {n : Nat} (hn : n ≤ 231) (hz : zeroFrom ws n) (x : Int) : wval (x :: ws.take 231) = x + 1000000000 * wval ws := by
  rw [wval_cons, ← zeroFrom_val (zeroFrom_mono hz hn)]
theorem up_ok {ws : List Int} (h : okW ws) {x : Int} (h0 : 0 ≤ x) (h1 : x < 1000000000) : okW (x :: ws.take 231) := okW_cons.2 ⟨⟨h0, h1⟩, okW_take h 231⟩
theorem up_zero {ws : List Int} {n : Nat} (hz : zeroFrom ws n) (x : Int) : zeroFrom (x :: ws.take 231) (n + 1) := by
  intro j hj hn
  obtain ⟨i, rfl⟩ : ∃ i, j = i + 1 := ⟨j - 1, by omega⟩
  rw [List.getElem_cons_succ, List.getElem_take]
  exact hz i (by simp at hj; omega) (by omega)

/-- What holds of the words of the quotient: those below place k are still 0, the others are the quotient of the places from k on. -/
def QAt (X Y : Nat) (qs : List Int) (k : Nat) : Prop := okW qs ∧ zeroFrom qs (wlen X) ∧ (∀ j (h : j < qs.length), j < k → qs[j] = 0) ∧ wval qs = 1000000000 ^ k * (((wsuf X k).toNat / Y : Nat) : Int)
theorem q_start (X Y : Nat) (hX : X < wmax) : QAt X Y (List.replicate 232 0) (wlen X) := by
  refine ⟨?_, fun j h _ => List.getElem_replicate _, fun j h _ => List.getElem_replicate _, ?_⟩
  · intro d hd; rw [List.mem_replicate] at hd; omega
  · rw [wsuf_zero hX (Nat.le_refl _), wval_zeros]; simp
theorem q_step {X Y : Nat} {qs : List Int} {i d x : Nat} (hX : X < wmax) (hY : Y ≠ 0) (hi : i < wlen X) (hl : qs.length = 232) (h : QAt X Y qs (i + 1)) (hx : wat X i = x)
    (hd : d = (x + 1000000000 * ((wsuf X (i + 1)).toNat % Y)) / Y) (hdb : d < 1000000000) : QAt X Y (qs.set i d) i ∧ (wsuf X i).toNat % Y = (x + 1000000000 * ((wsuf X (i + 1)).toNat % Y)) % Y := by
  obtain ⟨h1, h2, h3, h4⟩ := h
  have hil := wmax_le.1 hX
  have hS := wsuf_succ (X := X) (k := i) (by omega)
  have hb := wsuf_bd X (i + 1)
  rw [hx] at hS
  obtain ⟨S, hs⟩ : ∃ S : Nat, wsuf X (i + 1) = (S : Int) := ⟨(wsuf X (i + 1)).toNat, by omega⟩
  rw [hs] at hS h4 hd ⊢
  rw [Int.toNat_natCast] at h4 hd ⊢
  have hS2 : (wsuf X i).toNat = x + 1000000000 * S := by omega
  have hS3 : x + 1000000000 * S = (x + 1000000000 * (S % Y)) + Y * (1000000000 * (S / Y)) := by
    have := Nat.mod_add_div S Y
    have e : Y * (1000000000 * (S / Y)) = 1000000000 * (Y * (S / Y)) := by rw [← Nat.mul_assoc, Nat.mul_comm Y, Nat.mul_assoc]
    omega
  have hq : (x + 1000000000 * S) / Y = d + 1000000000 * (S / Y) := by
    rw [hS3, Nat.add_mul_div_left _ _ (Nat.pos_of_ne_zero hY), ← hd]
  refine ⟨⟨okW_set h1 i (by omega) (by omega), zeroFrom_set h2 hi _, fun j hj hji => ?_, ?_⟩, ?_⟩
  · rw [List.getElem_set_ne (by omega)]
    exact h3 j (by simpa using hj) (by omega)
  · have hi2 : i < qs.length := by omega
    rw [wval_set qs i hi2, h3 i hi2 (by omega), h4, hS2, hq, Int.sub_zero, Int.pow_succ, Int.natCast_add, Int.natCast_mul, Int.mul_add, Int.mul_comm (d : Int), Int.mul_assoc]
    have : ((1000000000 : Nat) : Int) = 1000000000 := rfl
    rw [this]
    omega
  · rw [hS2, hS3, Nat.add_mul_mod_self_left]
theorem q_end {X Y : Nat} {qs : List Int} (hX : X < wmax) (h : QAt X Y qs 0) : wval qs = ((X / Y : Nat) : Int) := by
  obtain ⟨-, -, -, h4⟩ := h
  rw [h4, wsuf_all hX]; simp
theorem rest_lt {x R Y : Nat} (hx : x < 1000000000) (hR : R < Y) : x + 1000000000 * R < 1000000000 * Y := by omega
theorem wlen_mul {X Y : Nat} (h : X < 1000000000 * Y) (hY : wlen Y ≤ 231) : wlen X ≤ 232 := by
  have h1 := (wlen_le 231 Y).1 hY
  refine (wlen_le 232 X).2 ?_
  rw [Nat.pow_succ, Nat.mul_comm]
  omega
theorem less_wlen {R Y : Nat} (h : R < Y) (hY : wlen Y ≤ 231) : wlen R ≤ 231 := Nat.le_trans (wlen_mono (Nat.le_of_lt h)) hY

theorem wdsN_zero : ∀ k, wdsN k 0 = List.replicate k 0
  | 0 => rfl
  | k + 1 => by
    have := wdsN_zero k
    simp [wdsN, this, List.replicate_succ]
theorem wds_zeros : wds 0 = List.replicate 232 0 := by rw [wds_def, wdsN_zero]

theorem div_round {k d R Y : Nat} (hk : (k : Int) * Y ≤ ((R - d * Y : Nat) : Int)) (hd : d * Y ≤ R) (hR : R < 1000000000 * Y) :
    d + k ≤ 999999999 ∧ (d + k) * Y ≤ R ∧ ((R - d * Y : Nat) : Int) + -(k : Int) * 1000000000 ^ 0 * Y = ((R - (d + k) * Y : Nat) : Int) := by
  have h1 : (d + k) * Y = d * Y + k * Y := Nat.add_mul ..
  have h2 : (k : Int) * Y = ((k * Y : Nat) : Int) := (Int.natCast_mul ..).symm
  have h3 : -(k : Int) * 1000000000 ^ 0 * Y = -((k * Y : Nat) : Int) := by rw [Int.pow_zero, Int.mul_one, Int.neg_mul, h2]
  rw [h2] at hk
  rw [h3, h1]
  refine ⟨?_, by omega, by omega⟩
  have h4 : (d + k) * Y < 1000000000 * Y := by omega
  have := Nat.lt_of_mul_lt_mul_right h4
  omega
theorem div_stop {d R Y : Nat} (hd : d * Y ≤ R) (h : ¬ Y ≤ R - d * Y) : d = R / Y ∧ R - d * Y = R % Y := by
  have h1 : R = (R - d * Y) + Y * d := by
    have e : Y * d = d * Y := Nat.mul_comm ..
    omega
  have h2 : R - d * Y < Y := by omega
  have h3 : 0 < Y := by omega
  refine ⟨?_, ?_⟩
  · rw [h1, Nat.add_mul_div_left _ _ h3, Nat.div_eq_of_lt h2]; omega
  · conv => rhs; rw [h1]
    rw [Nat.add_mul_mod_self_left, Nat.mod_eq_of_lt h2]

/-! ### words are moved up in memory -/
theorem size_int : (Tryz.prog.info? 3).map (·.size) = some 1 := by kernel_rfl
set_option maxRecDepth 100000 in
theorem run_up {g n : Nat} {s : Bool} {m : Int} {ws : List Int} {w : World} (h : WB w g s m ws) (hn : n ≤ 231) (ty : TypeId) :
    (Builtin.copy_ #[96, 96] ty #[.slice (some ⟨g, 3, none⟩) 231 231, .slice (some ⟨g, 2, none⟩) n 232]).run Tryz.prog w = .ok (.int .i64 n) (w.setRow g (wcells s m (upw ws n)).toArray) := by
  have hl := h.len
  have hcl : ((ws.take n).map (Value.int .i64)).length = n := by simp; omega
  have := run_copy_row Tryz.prog w 96 96 ty 3 g 3 231 231 ⟨g, 2, none⟩ n 232 _ _ ((ws.take n).map (Value.int .i64)) Tryz.underlying96 size_int h.blk (by rw [hcl]; exact (Nat.min_eq_left hn).symm)
    (fun j v hj => by
      rw [List.getElem?_map, Option.map_eq_some_iff] at hj
      obtain ⟨x, hx, rfl⟩ := hj
      rw [List.getElem?_take] at hx
      split at hx
      · obtain ⟨h1, h2⟩ := List.getElem?_eq_some_iff.1 hx
        have := h.cw h1
        rw [h2] at this
        have hadd : (⟨g, 2, none⟩ : Addr).add j = ⟨g, 2 + j, none⟩ := by unfold Addr.add; split <;> simp_all
        rw [hadd]
        exact this
      · cases hx) (by rw [hcl, wcells_len hl]; omega) (fun v hv => by
      simp only [List.mem_map] at hv
      obtain ⟨x, _, rfl⟩ := hv
      rfl)
  rw [hcl] at this
  refine this.trans ?_
  congr 2
  have e1 : (wcells s m ws).take 3 = .bool s :: .int .i64 m :: (ws.take 1).map (Value.int .i64) := by simp [wcells, List.map_take]
  have e2 : (wcells s m ws).drop (3 + n) = (ws.drop (1 + n)).map (Value.int .i64) := by
    rw [show 3 + n = (1 + n) + 1 + 1 by omega]; simp [wcells, List.map_drop]
  simp only
  rw [e1, e2]
  simp [wcells, upw]
theorem WB.up {g n : Nat} {s : Bool} {m : Int} {ws : List Int} {w : World} (h : WB w g s m ws) (hn : n ≤ 231) : WB (w.setRow g (wcells s m (upw ws n)).toArray) g s m (upw ws n) :=
  ⟨upw_length h.len hn, setRow_heap w g _ _ _ _ h.blk⟩
theorem gb_row {w w' : World} {b : Nat} (h : w.grownBy w' (some b)) (cs : Array Value) : w.grownBy (w'.setRow b cs) (some b) := by
  refine ⟨h.os, h.tape, h.output, by rw [size_setRow]; exact h.size, fun k hk hne => ?_⟩
  rw [setRow_other _ _ _ _ (by rintro rfl; exact hne rfl)]
  exact h.block k hk hne
end Go.Proofs.Wk
