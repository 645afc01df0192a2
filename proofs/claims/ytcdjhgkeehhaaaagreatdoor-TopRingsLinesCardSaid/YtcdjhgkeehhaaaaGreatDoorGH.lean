/- THE PROGRAM's MAGNITUDES: the quotient and the remainder: the law of one step. -/
import Derived.Test.YtcdjhgkeehhaaaaGreatDoorGG
import Derived.Laws.CopyRow
namespace Go.Proofs.Wk
open Go.RowKit Mt

/-- The words, moved up by one place. -/
def upw (ws : List Int) (n : Nat) : List Int := ws.take 1 ++ ws.take n ++ ws.drop (1 + n)
theorem upw_length {ws : List Int} {n : Nat} (hl : ws.length = 232) (hn : n ≤ 231) : (upw ws n).length = 232 := by
  unfold upw; simp; omega
theorem upw_set {ws : List Int} {n : Nat} (hl : ws.length = 232) (hn : n ≤ 231) (hz : zeroFrom ws n) (x : Int) : (upw ws n).set 0 x = x :: ws.take 231 := by
  have h1 : ws.drop (1 + n) = List.replicate (231 - n) 0 := by
    rw [zeroFrom_drop (zeroFrom_mono hz (by omega)), hl]; congr 1; omega
  have h2 : ws.take 231 = ws.take n ++ List.replicate (231 - n) 0 := by
    have h3 : ws = ws.take n ++ ws.drop n := (List.take_append_drop n ws).symm
    have h4 : (ws.drop n).take (231 - n) = List.replicate (231 - n) 0 := by
      rw [zeroFrom_drop hz, hl, List.take_replicate, Nat.min_eq_left (by omega)]
    conv => lhs; rw [h3]
    rw [List.take_append, List.take_of_length_le (by simp; omega), List.length_take, Nat.min_eq_left (by omega), h4]
  have h5 : ws.take 1 = [ws[0]] := by
    match ws, hl with
    | a :: t, _ => rfl
  unfold upw
  rw [h1, h2, h5]
  rfl
theorem up_val {ws : List Int} {n : Nat} (hn : n ≤ 231) (hz : zeroFrom ws n) (x : Int) : wval (x :: ws.take 231) = x + 1000000000 * wval ws := by
  rw [wval_cons, ← zeroFrom_val (zeroFrom_mono hz hn)]
theorem up_ok {ws : List Int} (h : okW ws) {x : Int} (h0 : 0 ≤ x) (h1 : x < 1000000000) : okW (x :: ws.take 231) := okW_cons.2 ⟨⟨h0, h1⟩, okW_take h 231⟩
theorem up_zero {ws : List Int} {n : Nat} (hz : zeroFrom ws n) (x : Int) : zeroFrom (x :: ws.take 231) (n + 1) := by
  intro j hj hn
  obtain ⟨i, rfl⟩ : ∃ i, j = i + 1 := ⟨j - 1, by omega⟩
  rw [List.getElem_cons_succ, List.getElem_take]
  exact hz i (by simp at hj; omega) (by omega)

/-- What holds of the words of the quotient: those below place k are still 0, the others are the quotient of the places from k on. -/
def QAt (X Y : Nat) (qs : List Int) (k : Nat) : Prop := okW qs ∧ zeroFrom qs (wlen X) ∧ (∀ j (h : j < qs.length), j < k → qs[j] = 0) ∧ wval qs = 1000000000 ^ k * (((wsuf X k).toNat / Y : Nat) : Int)
theorem q_start (X Y : Nat) (hX : X < wmax) : QAt X Y (List.replicate 232 0) (wlen X) := by
  refine ⟨?_, fun j h _ => List.getElem_replicate _, fun j h _ => List.getElem_replicate _, ?_⟩
  · intro d hd; rw [List.mem_replicate] at hd; omega
  · rw [wsuf_zero hX (Nat.le_refl _), wval_zeros]; simp
theorem q_step {X Y : Nat} {qs : List Int} {i d x : Nat} (hX : X < wmax) (hY : Y ≠ 0) (hi : i < wlen X) (hl : qs.length = 232) (h : QAt X Y qs (i + 1)) (hx : wat X i = x)
    (hd : d = (x + 1000000000 * ((wsuf X (i + 1)).toNat % Y)) / Y) (hdb : d < 1000000000) : QAt X Y (qs.set i d) i ∧ (wsuf X i).toNat % Y = (x + 1000000000 * ((wsuf X (i + 1)).toNat % Y)) % Y := by
  obtain ⟨h1, h2, h3, h4⟩ := h
  have hil := wmax_le.1 hX
  have hS := wsuf_succ (X := X) (k := i) (by omega)
  have hb := wsuf_bd X (i + 1)
  rw [hx] at hS
  obtain ⟨S, hs⟩ : ∃ S : Nat, wsuf X (i + 1) = (S : Int) := ⟨(wsuf X (i + 1)).toNat, by omega⟩
  rw [hs] at hS h4 hd ⊢
  rw [Int.toNat_natCast] at h4 hd ⊢
  have hS2 : (wsuf X i).toNat = x + 1000000000 * S := by omega
  have hS3 : x + 1000000000 * S = (x + 1000000000 * (S % Y)) + Y * (1000000000 * (S / Y)) := by
    have := Nat.mod_add_div S Y
    have e : Y * (1000000000 * (S / Y)) = 1000000000 * (Y * (S / Y)) := by rw [← Nat.mul_assoc, Nat.mul_comm Y, Nat.mul_assoc]
    omega
  have hq : (x + 1000000000 * S) / Y = d + 1000000000 * (S / Y) := by
    rw [hS3, Nat.add_mul_div_left _ _ (Nat.pos_of_ne_zero hY), ← hd]
  refine ⟨⟨okW_set h1 i (by omega) (by omega), zeroFrom_set h2 hi _, fun j hj hji => ?_, ?_⟩, ?_⟩
  · rw [List.getElem_set_ne (by omega)]
    exact h3 j (by simpa using hj) (by omega)
  · have hi2 : i < qs.length := by omega
    rw [wval_set qs i hi2, h3 i hi2 (by omega), h4, hS2, hq, Int.sub_zero, Int.pow_succ, Int.natCast_add, Int.natCast_mul, Int.mul_add, Int.mul_comm (d : Int), Int.mul_assoc]
    have : ((1000000000 : Nat) : Int) = 1000000000 := rfl
    rw [this]
    omega
  · rw [hS2, hS3, Nat.add_mul_mod_self_left]
theorem q_end {X Y : Nat} {qs : List Int} (hX : X < wmax) (h : QAt X Y qs 0) : wval qs = ((X / Y : Nat) : Int) := by
  obtain ⟨-, -, -, h4⟩ := h
  rw [h4, wsuf_all hX]; simp
theorem rest_lt {x R Y : Nat} (hx : x < 1000000000) (hR : R < Y) : x + 1000000000 * R < 1000000000 * Y := by omega
theorem wlen_mul {X Y : Nat} (h : X < 1000000000 * Y) (hY : wlen Y ≤ 231) : wlen X ≤ 232 := by
  have h1 := (wlen_le 231 Y).1 hY
  refine (wlen_le 232 X).2 ?_
  rw [Nat.pow_succ, Nat.mul_comm]
  omega
theorem less_wlen {R Y : Nat} (h : R < Y) (hY : wlen Y ≤ 231) : wlen R ≤ 231 := Nat.le_trans (wlen_mono (Nat.le_of_lt h)) hY

theorem wdsN_zero : ∀ k, wdsN k 0 = List.replicate k 0
  | 0 => rfl
  | k + 1 => by
    have := wdsN_zero k
    simp [wdsN, this, List.replicate_succ]
theorem wds_zeros : wds 0 = List.replicate 232 0 := by rw [wds_def, wdsN_zero]

theorem div_round {k d R Y : Nat} (hk : (k : Int) * Y ≤ ((R - d * Y : Nat) : Int)) (hd : d * Y ≤ R) (hR : R < 1000000000 * Y) :
    d + k ≤ 999999999 ∧ (d + k) * Y ≤ R ∧ ((R - d * Y : Nat) : Int) + -(k : Int) * 1000000000 ^ 0 * Y = ((R - (d + k) * Y : Nat) : Int) := by
  have h1 : (d + k) * Y = d * Y + k * Y := Nat.add_mul ..
  have h2 : (k : Int) * Y = ((k * Y : Nat) : Int) := (Int.natCast_mul ..).symm
  have h3 : -(k : Int) * 1000000000 ^ 0 * Y = -((k * Y : Nat) : Int) := by rw [Int.pow_zero, Int.mul_one, Int.neg_mul, h2]
  rw [h2] at hk
  rw [h3, h1]
  refine ⟨?_, by omega, by omega⟩
  have h4 : (d + k) * Y < 1000000000 * Y := by omega
  have := Nat.lt_of_mul_lt_mul_right h4
  omega
theorem div_stop {d R Y : Nat} (hd : d * Y ≤ R) (h : ¬ Y ≤ R - d * Y) : d = R / Y ∧ R - d * Y = R % Y := by
  have h1 : R = (R - d * Y) + Y * d := by
    have e : Y * d = d * Y := Nat.mul_comm ..
    omega
  have h2 : R - d * Y < Y := by omega
  have h3 : 0 < Y := by omega
  refine ⟨?_, ?_⟩
  · rw [h1, Nat.add_mul_div_left _ _ h3, Nat.div_eq_of_lt h2]; omega
  · conv => rhs; rw [h1]
    rw [Nat.add_mul_mod_self_left, Nat.mod_eq_of_lt h2]

/-! ### words are moved up in memory -/
theorem size_int : (Tryz.prog.info? 3).map (·.size) = some 1 := by kernel_rfl
set_option maxRecDepth 100000 in
theorem run_up {g n : Nat} {s : Bool} {m : Int} {ws : List Int} {w : World} (h : WB w g s m ws) (hn : n ≤ 231) (ty : TypeId) :
    (Builtin.copy_ #[132, 132] ty #[.slice (some ⟨g, 3, none⟩) 231 231, .slice (some ⟨g, 2, none⟩) n 232]).run Tryz.prog w = .ok (.int .i64 n) (w.setRow g (wcells s m (upw ws n)).toArray) := by
  have hl := h.len
  have hcl : ((ws.take n).map (Value.int .i64)).length = n := by simp; omega
  have := run_copy_row Tryz.prog w 132 132 ty 3 g 3 231 231 ⟨g, 2, none⟩ n 232 _ _ ((ws.take n).map (Value.int .i64)) Tryz.underlying132 size_int h.blk (by rw [hcl]; exact (Nat.min_eq_left hn).symm)
    (fun j v hj => by
      rw [List.getElem?_map, Option.map_eq_some_iff] at hj
      obtain ⟨x, hx, rfl⟩ := hj
      rw [List.getElem?_take] at hx
      split at hx
      · obtain ⟨h1, h2⟩ := List.getElem?_eq_some_iff.1 hx
        have := h.cw h1
        rw [h2] at this
        have hadd : (⟨g, 2, none⟩ : Addr).add j = ⟨g, 2 + j, none⟩ := by unfold Addr.add; split <;> simp_all
        rw [hadd]
        exact this
      · cases hx) (by rw [hcl, wcells_len hl]; omega) (fun v hv => by
      simp only [List.mem_map] at hv
      obtain ⟨x, _, rfl⟩ := hv
      rfl)
  rw [hcl] at this
  refine this.trans ?_
  congr 2
  have e1 : (wcells s m ws).take 3 = .bool s :: .int .i64 m :: (ws.take 1).map (Value.int .i64) := by simp [wcells, List.map_take]
  have e2 : (wcells s m ws).drop (3 + n) = (ws.drop (1 + n)).map (Value.int .i64) := by
    rw [show 3 + n = (1 + n) + 1 + 1 by omega]; simp [wcells, List.map_drop]
  simp only
  rw [e1, e2]
  simp [wcells, upw]
theorem WB.up {g n : Nat} {s : Bool} {m : Int} {ws : List Int} {w : World} (h : WB w g s m ws) (hn : n ≤ 231) : WB (w.setRow g (wcells s m (upw ws n)).toArray) g s m (upw ws n) :=
  ⟨upw_length h.len hn, setRow_heap w g _ _ _ _ h.blk⟩
theorem gb_row {w w' : World} {b : Nat} (h : w.grownBy w' (some b)) (cs : Array Value) : w.grownBy (w'.setRow b cs) (some b) := by
  refine ⟨h.os, h.tape, h.output, by rw [size_setRow]; exact h.size, fun k hk hne => ?_⟩
  rw [setRow_other _ _ _ _ (by rintro rfl; exact hne rfl)]
  exact h.block k hk hne
end Go.Proofs.Wk
/- THE PROGRAM's MAGNITUDES: the quotient and the remainder: the walk. -/
namespace Go.Proofs.Wk
open Go.RowKit Mt

/-- A call that makes a quotient and a remainder. -/
def NewQR (w : World) (q r : Nat) (e : Ending) (w' : World) : Prop := ∃ g1 g2, e = .returned (.tuple #[.pointer (some ⟨g1, 0, none⟩), .pointer (some ⟨g2, 0, none⟩)]) ∧ w.heap.size ≤ g1 ∧ w.heap.size ≤ g2 ∧ g1 ≠ g2 ∧ CW w' g1 false q ∧ CW w' g2 false r ∧ Below w.heap.size w w'

set_option maxRecDepth 100000 in
set_option maxHeartbeats 2000000 in
theorem divided_c (bx bz : Nat) (sx sy : Bool) (X Y : Nat) (w : World) (hx : CW w bx sx X) (hy : CW w bz sy Y) (h0 : Y ≠ 0) (hYl : wlen Y ≤ 231) :
    Calls Tryz.prog 95 #[.pointer (some ⟨bx, 0, none⟩), .pointer (some ⟨bz, 0, none⟩)] w (NewQR w (X / Y) (X % Y)) := by
  have hxl := hx.lt
  have hyl := hy.lt
  obtain ⟨n, hn⟩ : ∃ n, wlen X = n := ⟨_, rfl⟩
  have hnl := hx.wl
  have hc1 := hx.2.c1
  rw [hn] at hc1 hnl
  have HX := Lib.hid hx; have HY := Lib.hid hy; have H0 := Lib.hid h0; have HN := Lib.hid hn; have HYL := Lib.hid hYl
  have hXm := Lib.hid hx.1; have hYm := Lib.hid hy.1
  clear hx hy h0 hn hYl
  go_enter Tryz.func95, Tryz.ntmps95
  go_wp2_with fail
  have hsz : (w.alloc (.cells Tryz.zeroCells160 160)).heap.size = w.heap.size + 1 := Array.size_push ..
  go_loopw [8] (fun s8 wr => ∃ (k : Nat) (qs : List Int), s8 = .int .i64 ((k : Int) - 1) ∧ k ≤ n ∧ CW wr (w.heap.size + 1) false ((wsuf X k).toNat % Y) ∧ WB wr w.heap.size false (if k = n then 0 else n : Nat) qs ∧ Hid (QAt X Y qs k) ∧ Below w.heap.size w wr) (fun i _ => (intOf i + 1).toNat)
  case atStart =>
    have hz0 := CW.zero w
    have hz1 := CW.zero (w.alloc (.cells Tryz.zeroCells160 160))
    rw [hsz] at hz1
    refine ⟨n, List.replicate 232 0, rfl, Nat.le_refl _, ?_, ?_, ?_, ((Below.refl _ _).alloc (Nat.le_refl _) _).alloc (by rw [hsz]; omega) _⟩
    · rw [← HN.out, wsuf_zero hXm.out (Nat.le_refl _), show Int.toNat 0 % Y = 0 from Nat.zero_mod Y]
      exact hz1
    · rw [if_pos rfl]
      have h1 := hz0.later (B := w.heap.size + 1) ((Below.refl _ _).alloc (by rw [hsz]; omega) (.cells Tryz.zeroCells160 160)) (by omega)
      have h2 := h1.2
      rw [wlen_zero, wds_zeros] at h2
      exact h2
    · have := q_start X Y hXm.out
      rw [HN.out] at this
      exact this
  case round =>
    obtain ⟨k, qs, rfl, hk, hC, hW, hQ, hB⟩ := hrel
    by_cases hk0 : 1 ≤ k
    · obtain ⟨i, rfl⟩ : ∃ i, k = i + 1 := ⟨k - 1, by omega⟩
      rw [show (((i + 1 : Nat) : Int) - 1) = (i : Int) by omega]
      have hrY : (wsuf X (i + 1)).toNat % Y < Y := Nat.mod_lt _ (Nat.pos_of_ne_zero H0.out)
      have hml := less_wlen hrY HYL.out
      have hwb := wat_bd X i
      obtain ⟨x, hx⟩ : ∃ x : Nat, wat X i = (x : Int) := ⟨(wat X i).toNat, by omega⟩
      rw [hx] at hwb
      obtain ⟨hx0, hx1⟩ := hwb
      have hstep := fun d h => @q_step X Y qs i d x hXm.out H0.out (by have := HN.out; omega) hW.len hQ.out hx h
      have HST := Lib.hid hstep
      clear hstep
      obtain ⟨r, hr⟩ : ∃ r, (wsuf X (i + 1)).toNat % Y = r := ⟨_, rfl⟩
      rw [hr] at hrY hml hC HST
      have HRY := Lib.hid hrY
      have hrlt := rest_lt (x := x) (by omega) hrY
      have hql := wlen_mul hrlt HYL.out
      have hRl := Lib.hid hrlt
      have hzr := wds_zero hC.1
      have hvr := wds_val hC.1
      have hor := wds_ok r
      have hRW := hC.2
      obtain ⟨m, hm⟩ : ∃ m, wlen r = m := ⟨_, rfl⟩
      rw [hm] at hml hzr hRW
      have hrd := hRW.drew
      have hcp := fun ty => run_up hrd hml ty
      have hcm := hrd.c1
      have hfr : ∀ j, wr.drew.frozen? ⟨w.heap.size + 1, j, none⟩ = false := fun j => hrd.free j
      have HX1 := Lib.hid hx; have HZR := Lib.hid hzr; have HVR := Lib.hid hvr; have HOR := Lib.hid hor; have HM := Lib.hid hm; have HRW := Lib.hid hRW; have HW := Lib.hid hW
      have hi3 : (i : Int) < 232 := by omega
      have hm3 : (m : Int) ≤ 231 := by omega
      have hm4 : (m : Int) ≤ 232 := by omega
      have hm5 : 0 ≤ (m : Int) := by omega
      have hglt := hC.lt
      clear hx hr hrY hrlt hzr hvr hor hm hRW hW hrd hC
      go_upto_region 6 with fail
      go_cut [7] (fun s7 wx => s7 = .pointer (some ⟨w.heap.size + 1, 0, none⟩) ∧ WB wx (w.heap.size + 1) false m (upw (wds r) m) ∧ wr.grownBy wx (some (w.heap.size + 1)))
      case first =>
        go_region
        all_goals (go_wp2_with fail; go_meet)
        all_goals exact ⟨rfl, HRW.out.drew.up hml, gb_row (gb_drew (gb_refl _ _)) _⟩
      case rest =>
        obtain ⟨rfl, hWx, hGx⟩ := hcut
        have hcw0 : ∃ v, World.cell? _ ⟨w.heap.size + 1, 2, none⟩ = some v := ⟨_, hWx.cw (i := 0) (by rw [hWx.len]; omega)⟩
        obtain ⟨v0, hcw0⟩ := hcw0
        clear hcp hcm hfr
        have hBx := hB.trans (gb_below hGx (by omega) hB.size)
        have hxW := HX.out.later hBx hxl
        have hiw : i < (wds X).length := by rw [wds_length]; omega
        have hcw := hxW.2.cw hiw
        rw [wat_get hiw, HX1.out] at hcw
        have hfr0 := hWx.free 2
        have hus := upw_set (wds_length r) hml HZR.out x
        have HUS := Lib.hid hus
        have HWX := Lib.hid hWx
        clear hxW hWx hus
        go_upto_region 7 with fail
        go_cut [7] (fun s7 wy => s7 = .pointer (some ⟨w.heap.size + 1, 0, none⟩) ∧ WB wy (w.heap.size + 1) false m ((x : Int) :: (wds r).take 231) ∧ wr.grownBy wy (some (w.heap.size + 1)))
        case first =>
          go_region
          all_goals (go_wp2_with fail; go_meet)
          all_goals exact ⟨rfl, by rw [← HUS.out]; exact HWX.out.drew.setw 0 x rfl, gb_set (gb_drew hGx) _ _⟩
        case rest =>
          obtain ⟨rfl, hWy, hGy⟩ := hcut
          clear hcw hcw0 hfr0
          have hcy1 := hWy.c1
          have hfy1 := hWy.free 1
          have HWY := Lib.hid (hWy.set1 ((m : Int) + 1) rfl)
          have HGY := Lib.hid (gb_set hGy 1 (.int .i64 ((m : Int) + 1)))
          clear hWy hGy
          go_wp2_with fail
          refine (trimmed_c (w.heap.size + 1) false (m + 1) (x + 1000000000 * r) ((x : Int) :: (wds r).take 231) _ HWY.out (by omega) (up_ok HOR.out hx0 hx1) (up_zero HZR.out _) (by rw [up_val hml HZR.out, HVR.out]; simp)).mono ?_
          rintro e wt ⟨rfl, hCt, hGt⟩
          have hGT := gb_trans HGY.out hGt
          have HCT := Lib.hid hCt; have HGT := Lib.hid hGT
          clear hCt hGT hGt
          obtain ⟨R, hR⟩ : ∃ R, x + 1000000000 * r = R := ⟨_, rfl⟩
          rw [hR] at HCT HST hql hRl
          clear hR HWY HGY
          go_wp2_with fail
          go_loopw [9] (fun s9 wy => ∃ d : Nat, s9 = .int .i64 d ∧ d ≤ 999999999 ∧ Hid (d * Y ≤ R) ∧ CW wy (w.heap.size + 1) false (R - d * Y) ∧ wr.grownBy wy (some (w.heap.size + 1))) (fun s9 _ => 1000000000 - (intOf s9).toNat)
          case atStart =>
            exact ⟨0, rfl, by omega, by show _ ≤ _; rw [Nat.zero_mul]; omega, by rw [Nat.zero_mul, Nat.sub_zero]; exact HCT.out, HGT.out⟩
          case round =>
            obtain ⟨d, rfl, hd9, hdY, hCd, hGd⟩ := hrel
            have hBd := hB.trans (gb_below hGd (by omega) hB.size)
            have HCY := Lib.hid (HY.out.later hBd hyl)
            have HCD := Lib.hid hCd
            clear hCd
            go_wp2_with fail
            refine (beyond_c (w.heap.size + 1) bz false sy (R - d * Y) Y _ HCD.out HCY.out).mono ?_
            rintro e w1 ⟨dd, rfl, hge, hlt, q1, rfl⟩
            by_cases hle : Y ≤ R - d * Y
            · have hdd := hge hle
              clear hge hlt
              have HLE := Lib.hid hle
              clear hle
              go_wp2_with fail
              refine (estimate_c (w.heap.size + 1) bz false sy (R - d * Y) Y _ ⟨HCD.out.1, HCD.out.2.drewN q1⟩ ⟨HCY.out.1, HCY.out.2.drewN q1⟩ H0.out HLE.out).mono ?_
              rintro e w1 ⟨kk, rfl, hkk0, hkk1, hkY, q2, rfl⟩
              obtain ⟨k2, rfl⟩ : ∃ k2 : Nat, kk = (k2 : Int) := ⟨kk.toNat, by omega⟩
              have hlaw := div_round hkY hdY.out hRl.out
              obtain ⟨hd9', hdY', hT⟩ := hlaw
              have HDY := Lib.hid hdY'; have HT := Lib.hid hT
              have HQ := Lib.hid hql
              clear hkY hdY' hT
              rw [World.drewN_drewN]
              go_wp2_with fail
              refine (carry_c (w.heap.size + 1) bz false sy (R - d * Y) Y (R - (d + k2) * Y) (-(k2 : Int)) 0 _ ⟨HCD.out.1, HCD.out.2.drewN _⟩ ⟨HCY.out.1, HCY.out.2.drewN _⟩ (by omega) (by omega) (by omega) (by have := HYL.out; omega) HT.out (by have := wmax_le.2 HQ.out; omega)).mono ?_
              rintro e w2 ⟨rfl, hC2, hG2⟩
              have hG3 := gb_trans (gb_drewN hGd (q1 + q2)) hG2
              go_wp2
              go_roundw
              case rel => exact ⟨d + k2, by go_num, by omega, HDY.out, hC2, hG3⟩
              case measure => simp [intOf]; omega
            · have hdd := hlt (by omega)
              clear hge hlt
              obtain ⟨he1, he2⟩ := div_stop hdY.out hle
              have hst := HST.out d he1 (by omega)
              obtain ⟨hst1, hst2⟩ := hst
              rw [he2, ← hst2] at HCD
              have HQ2 := Lib.hid hst1
              have hWq := (HW.out.kept hGd (by simp)).drewN q1
              obtain ⟨nq, hnq, hnq2⟩ : ∃ nq : Nat, (if i + 1 = n then 0 else n) = nq ∧ max (nq : Int) ((i : Int) + 1) = n := by
                by_cases e : i + 1 = n
                · exact ⟨0, by rw [if_pos e], by omega⟩
                · exact ⟨n, by rw [if_neg e], by omega⟩
              rw [hnq] at hWq
              have hqc1 := hWq.c1
              have hqf := hWq.free (2 + i)
              have hqf1 := hWq.free 1
              have hqcw : ∃ v, World.cell? _ ⟨w.heap.size, 2 + i, none⟩ = some v := ⟨_, hWq.cw (i := i) (by rw [hWq.len]; omega)⟩
              obtain ⟨v1, hqcw⟩ := hqcw
              have HWQ := Lib.hid ((hWq.setw i d rfl).set1 n rfl)
              have HBQ := Lib.hid (((hB.trans (gb_below (gb_drewN hGd q1) (by omega) hB.size)).setCell (p := ⟨w.heap.size, 2 + i, none⟩) (Nat.le_refl _) (.int .i64 d)).setCell (p := ⟨w.heap.size, 1, none⟩) (Nat.le_refl _) (.int .i64 n))
              have hf2 := (hWq.setw i d rfl).free 1
              have hf3 := (hWq.setw i d rfl).c1
              clear hst1 hst2 he1 he2 hle hWq hnq HST hsz
              clear hd9 hx0 hx1 hcy1 hfy1 hxl hyl hc1 hnl hk0 hql hm3 hm4 hm5 hglt
              have HK := Lib.hid hk
              clear hk
              go_wp2_with fail
              go_roundw
              case rel => exact ⟨i, qs.set i d, by go_num, by have := HK.out; omega, CW.kept ⟨HCD.out.1, HCD.out.2.drewN q1⟩ (gb_set (gb_set (gb_refl _ _) (2 + i) _) 1 _) (by simp), by rw [if_neg (by have := HK.out; omega)]; exact HWQ.out, HQ2, HBQ.out⟩
              case measure => simp [intOf]
    · obtain rfl : k = 0 := by omega
      have HCR := Lib.hid hC
      have hq0 : (if 0 = n then 0 else n) = n := by split <;> omega
      rw [hq0] at hW
      have HQ := Lib.hid hQ.out
      go_wp2_with fail
      refine (trimmed_c w.heap.size false n (X / Y) qs _ hW (by omega) hQ.out.1 (by rw [← HN.out]; exact hQ.out.2.1) (q_end hXm.out hQ.out)).mono ?_
      rintro e w1 ⟨rfl, hC1, hG1⟩
      have hCr := HCR.out.kept hG1 (by simp)
      rw [wsuf_all hXm.out, Int.toNat_natCast] at hCr
      go_wp2
      go_ret2
      exact ⟨w.heap.size, w.heap.size + 1, rfl, Nat.le_refl _, by omega, by omega, hC1, hCr, hB.trans (gb_below hG1 (Nat.le_refl _) hB.size)⟩
end Go.Proofs.Wk
