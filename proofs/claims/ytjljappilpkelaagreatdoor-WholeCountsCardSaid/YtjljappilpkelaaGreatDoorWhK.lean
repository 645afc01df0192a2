/- THE PROGRAM's MAGNITUDES: the quotient and the remainder: the walk. -/
import Derived.Test.YtjljappilpkelaaGreatDoorWhJ
namespace Go.Proofs.Wk
open Go.RowKit Mt

/-- A call that makes a quotient and a remainder. -/
def NewQR (w : World) (q r : Nat) (e : Ending) (w' : World) : Prop := ∃ g1 g2, e = .returned (.tuple #[.pointer (some ⟨g1, 0, none⟩), .pointer (some ⟨g2, 0, none⟩)]) ∧ w.heap.size ≤ g1 ∧ w.heap.size ≤ g2 ∧ g1 ≠ g2 ∧ CW w' g1 false q ∧ CW w' g2 false r ∧ Below w.heap.size w w'

set_option maxRecDepth 100000 in
set_option maxHeartbeats 2000000 in
theorem divided_c (bx bz : Nat) (sx sy : Bool) (X Y : Nat) (w : World) (hx : CW w bx sx X) (hy : CW w bz sy Y) (h0 : Y ≠ 0) (hYl : wlen Y ≤ 231) :
    Calls Tryz.prog 50 #[.pointer (some ⟨bx, 0, none⟩), .pointer (some ⟨bz, 0, none⟩)] w (NewQR w (X / Y) (X % Y)) := by
  have hxl := hx.lt
  have hyl := hy.lt
  obtain ⟨n, hn⟩ : ∃ n, wlen X = n := ⟨_, rfl⟩
  have hnl := hx.wl
  have hc1 := hx.2.c1
  rw [hn] at hc1 hnl
  have HX := Lib.hid hx; have HY := Lib.hid hy; have H0 := Lib.hid h0; have HN := Lib.hid hn; have HYL := Lib.hid hYl
  have hXm := Lib.hid hx.1; have hYm := Lib.hid hy.1
  clear hx hy h0 hn hYl
  go_enter Tryz.func50, Tryz.ntmps50
  go_wp2_with fail
  have hsz : (w.alloc (.cells Tryz.zeroCells73 73)).heap.size = w.heap.size + 1 := Array.size_push ..
  go_loopw [8] (fun s8 wr => ∃ (k : Nat) (qs : List Int), s8 = .int .i64 ((k : Int) - 1) ∧ k ≤ n ∧ CW wr (w.heap.size + 1) false ((wsuf X k).toNat % Y) ∧ WB wr w.heap.size false (if k = n then 0 else n : Nat) qs ∧ Hid (QAt X Y qs k) ∧ Below w.heap.size w wr) (fun i _ => (intOf i + 1).toNat)
  case atStart =>
    have hz0 := CW.zero w
    have hz1 := CW.zero (w.alloc (.cells Tryz.zeroCells73 73))
    rw [hsz] at hz1
    refine ⟨n, List.replicate 232 0, rfl, Nat.le_refl _, ?_, ?_, ?_, ((Below.refl _ _).alloc (Nat.le_refl _) _).alloc (by rw [hsz]; omega) _⟩
    · rw [← HN.out, wsuf_zero hXm.out (Nat.le_refl _), show Int.toNat 0 % Y = 0 from Nat.zero_mod Y]
      exact hz1
    · rw [if_pos rfl]
      have h1 := hz0.later (B := w.heap.size + 1) ((Below.refl _ _).alloc (by rw [hsz]; omega) (.cells Tryz.zeroCells73 73)) (by omega)
      have h2 := h1.2
      rw [wlen_zero, wds_zeros] at h2
      exact h2
    · have := q_start X Y hXm.out
      rw [HN.out] at this
      exact this
  case round =>
    obtain ⟨k, qs, rfl, hk, hC, hW, hQ, hB⟩ := hrel
    by_cases hk0 : 1 ≤ k
    · obtain ⟨i, rfl⟩ : ∃ i, k = i + 1 := ⟨k - 1, by omega⟩
      rw [show (((i + 1 : Nat) : Int) - 1) = (i : Int) by omega]
      have hrY : (wsuf X (i + 1)).toNat % Y < Y := Nat.mod_lt _ (Nat.pos_of_ne_zero H0.out)
      have hml := less_wlen hrY HYL.out
      have hwb := wat_bd X i
      obtain ⟨x, hx⟩ : ∃ x : Nat, wat X i = (x : Int) := ⟨(wat X i).toNat, by omega⟩
      rw [hx] at hwb
      obtain ⟨hx0, hx1⟩ := hwb
      have hstep := fun d h => @q_step X Y qs i d x hXm.out H0.out (by have := HN.out; omega) hW.len hQ.out hx h
      have HST := Lib.hid hstep
      clear hstep
      obtain ⟨r, hr⟩ : ∃ r, (wsuf X (i + 1)).toNat % Y = r := ⟨_, rfl⟩
      rw [hr] at hrY hml hC HST
      have HRY := Lib.hid hrY
      have hrlt := rest_lt (x := x) (by omega) hrY
      have hql := wlen_mul hrlt HYL.out
      have hRl := Lib.hid hrlt
      have hzr := wds_zero hC.1
      have hvr := wds_val hC.1
      have hor := wds_ok r
      have hRW := hC.2
      obtain ⟨m, hm⟩ : ∃ m, wlen r = m := ⟨_, rfl⟩
      rw [hm] at hml hzr hRW
      have hrd := hRW.drew
      have hcp := fun ty => run_up hrd hml ty
      have hcm := hrd.c1
      have hfr : ∀ j, wr.drew.frozen? ⟨w.heap.size + 1, j, none⟩ = false := fun j => hrd.free j
      have HX1 := Lib.hid hx; have HZR := Lib.hid hzr; have HVR := Lib.hid hvr; have HOR := Lib.hid hor; have HM := Lib.hid hm; have HRW := Lib.hid hRW; have HW := Lib.hid hW
      have hi3 : (i : Int) < 232 := by omega
      have hm3 : (m : Int) ≤ 231 := by omega
      have hm4 : (m : Int) ≤ 232 := by omega
      have hm5 : 0 ≤ (m : Int) := by omega
      have hglt := hC.lt
      clear hx hr hrY hrlt hzr hvr hor hm hRW hW hrd hC
      go_upto_region 6 with fail
      go_cut [7] (fun s7 wx => s7 = .pointer (some ⟨w.heap.size + 1, 0, none⟩) ∧ WB wx (w.heap.size + 1) false m (upw (wds r) m) ∧ wr.grownBy wx (some (w.heap.size + 1)))
      case first =>
        go_region
        all_goals (go_wp2_with fail; go_meet)
        all_goals exact ⟨rfl, HRW.out.drew.up hml, gb_row (gb_drew (gb_refl _ _)) _⟩
      case rest =>
        obtain ⟨rfl, hWx, hGx⟩ := hcut
        have hcw0 : ∃ v, World.cell? _ ⟨w.heap.size + 1, 2, none⟩ = some v := ⟨_, hWx.cw (i := 0) (by rw [hWx.len]; omega)⟩
        obtain ⟨v0, hcw0⟩ := hcw0
        clear hcp hcm hfr
        have hBx := hB.trans (gb_below hGx (by omega) hB.size)
        have hxW := HX.out.later hBx hxl
        have hiw : i < (wds X).length := by rw [wds_length]; omega
        have hcw := hxW.2.cw hiw
        rw [wat_get hiw, HX1.out] at hcw
        have hfr0 := hWx.free 2
        have hus := upw_set (wds_length r) hml HZR.out x
        have HUS := Lib.hid hus
        have HWX := Lib.hid hWx
        clear hxW hWx hus
        go_upto_region 7 with fail
        go_cut [7] (fun s7 wy => s7 = .pointer (some ⟨w.heap.size + 1, 0, none⟩) ∧ WB wy (w.heap.size + 1) false m ((x : Int) :: (wds r).take 231) ∧ wr.grownBy wy (some (w.heap.size + 1)))
        case first =>
          go_region
          all_goals (go_wp2_with fail; go_meet)
          all_goals exact ⟨rfl, by rw [← HUS.out]; exact HWX.out.drew.setw 0 x rfl, gb_set (gb_drew hGx) _ _⟩
        case rest =>
          obtain ⟨rfl, hWy, hGy⟩ := hcut
          clear hcw hcw0 hfr0
          have hcy1 := hWy.c1
          have hfy1 := hWy.free 1
          have HWY := Lib.hid (hWy.set1 ((m : Int) + 1) rfl)
          have HGY := Lib.hid (gb_set hGy 1 (.int .i64 ((m : Int) + 1)))
          clear hWy hGy
          go_wp2_with fail
          refine (trimmed_c (w.heap.size + 1) false (m + 1) (x + 1000000000 * r) ((x : Int) :: (wds r).take 231) _ HWY.out (by omega) (up_ok HOR.out hx0 hx1) (up_zero HZR.out _) (by rw [up_val hml HZR.out, HVR.out]; simp)).mono ?_
          rintro e wt ⟨rfl, hCt, hGt⟩
          have hGT := gb_trans HGY.out hGt
          have HCT := Lib.hid hCt; have HGT := Lib.hid hGT
          clear hCt hGT hGt
          obtain ⟨R, hR⟩ : ∃ R, x + 1000000000 * r = R := ⟨_, rfl⟩
          rw [hR] at HCT HST hql hRl
          clear hR HWY HGY
          go_wp2_with fail
          go_loopw [9] (fun s9 wy => ∃ d : Nat, s9 = .int .i64 d ∧ d ≤ 999999999 ∧ Hid (d * Y ≤ R) ∧ CW wy (w.heap.size + 1) false (R - d * Y) ∧ wr.grownBy wy (some (w.heap.size + 1))) (fun s9 _ => 1000000000 - (intOf s9).toNat)
          case atStart =>
            exact ⟨0, rfl, by omega, by show _ ≤ _; rw [Nat.zero_mul]; omega, by rw [Nat.zero_mul, Nat.sub_zero]; exact HCT.out, HGT.out⟩
          case round =>
            obtain ⟨d, rfl, hd9, hdY, hCd, hGd⟩ := hrel
            have hBd := hB.trans (gb_below hGd (by omega) hB.size)
            have HCY := Lib.hid (HY.out.later hBd hyl)
            have HCD := Lib.hid hCd
            clear hCd
            go_wp2_with fail
            refine (beyond_c (w.heap.size + 1) bz false sy (R - d * Y) Y _ HCD.out HCY.out).mono ?_
            rintro e w1 ⟨dd, rfl, hge, hlt, q1, rfl⟩
            by_cases hle : Y ≤ R - d * Y
            · have hdd := hge hle
              clear hge hlt
              have HLE := Lib.hid hle
              clear hle
              go_wp2_with fail
              refine (estimate_c (w.heap.size + 1) bz false sy (R - d * Y) Y _ ⟨HCD.out.1, HCD.out.2.drewN q1⟩ ⟨HCY.out.1, HCY.out.2.drewN q1⟩ H0.out HLE.out).mono ?_
              rintro e w1 ⟨kk, rfl, hkk0, hkk1, hkY, q2, rfl⟩
              obtain ⟨k2, rfl⟩ : ∃ k2 : Nat, kk = (k2 : Int) := ⟨kk.toNat, by omega⟩
              have hlaw := div_round hkY hdY.out hRl.out
              obtain ⟨hd9', hdY', hT⟩ := hlaw
              have HDY := Lib.hid hdY'; have HT := Lib.hid hT
              have HQ := Lib.hid hql
              clear hkY hdY' hT
              rw [World.drewN_drewN]
              go_wp2_with fail
              refine (carry_c (w.heap.size + 1) bz false sy (R - d * Y) Y (R - (d + k2) * Y) (-(k2 : Int)) 0 _ ⟨HCD.out.1, HCD.out.2.drewN _⟩ ⟨HCY.out.1, HCY.out.2.drewN _⟩ (by omega) (by omega) (by omega) (by have := HYL.out; omega) HT.out (by have := wmax_le.2 HQ.out; omega)).mono ?_
              rintro e w2 ⟨rfl, hC2, hG2⟩
              have hG3 := gb_trans (gb_drewN hGd (q1 + q2)) hG2
              go_wp2
              go_roundw
              case rel => exact ⟨d + k2, by go_num, by omega, HDY.out, hC2, hG3⟩
              case measure => simp [intOf]; omega
            · have hdd := hlt (by omega)
              clear hge hlt
              obtain ⟨he1, he2⟩ := div_stop hdY.out hle
              have hst := HST.out d he1 (by omega)
              obtain ⟨hst1, hst2⟩ := hst
              rw [he2, ← hst2] at HCD
              have HQ2 := Lib.hid hst1
              have hWq := (HW.out.kept hGd (by simp)).drewN q1
              obtain ⟨nq, hnq, hnq2⟩ : ∃ nq : Nat, (if i + 1 = n then 0 else n) = nq ∧ max (nq : Int) ((i : Int) + 1) = n := by
                by_cases e : i + 1 = n
                · exact ⟨0, by rw [if_pos e], by omega⟩
                · exact ⟨n, by rw [if_neg e], by omega⟩
              rw [hnq] at hWq
              have hqc1 := hWq.c1
              have hqf := hWq.free (2 + i)
              have hqf1 := hWq.free 1
              have hqcw : ∃ v, World.cell? _ ⟨w.heap.size, 2 + i, none⟩ = some v := ⟨_, hWq.cw (i := i) (by rw [hWq.len]; omega)⟩
              obtain ⟨v1, hqcw⟩ := hqcw
              have HWQ := Lib.hid ((hWq.setw i d rfl).set1 n rfl)
              have HBQ := Lib.hid (((hB.trans (gb_below (gb_drewN hGd q1) (by omega) hB.size)).setCell (p := ⟨w.heap.size, 2 + i, none⟩) (Nat.le_refl _) (.int .i64 d)).setCell (p := ⟨w.heap.size, 1, none⟩) (Nat.le_refl _) (.int .i64 n))
              have hf2 := (hWq.setw i d rfl).free 1
              have hf3 := (hWq.setw i d rfl).c1
              clear hst1 hst2 he1 he2 hle hWq hnq HST hsz
              clear hd9 hx0 hx1 hcy1 hfy1 hxl hyl hc1 hnl hk0 hql hm3 hm4 hm5 hglt
              have HK := Lib.hid hk
              clear hk
              go_wp2_with fail
              go_roundw
              case rel => exact ⟨i, qs.set i d, by go_num, by have := HK.out; omega, CW.kept ⟨HCD.out.1, HCD.out.2.drewN q1⟩ (gb_set (gb_set (gb_refl _ _) (2 + i) _) 1 _) (by simp), by rw [if_neg (by have := HK.out; omega)]; exact HWQ.out, HQ2, HBQ.out⟩
              case measure => simp [intOf]
    · obtain rfl : k = 0 := by omega
      have HCR := Lib.hid hC
      have hq0 : (if 0 = n then 0 else n) = n := by split <;> omega
      rw [hq0] at hW
      have HQ := Lib.hid hQ.out
      go_wp2_with fail
      refine (trimmed_c w.heap.size false n (X / Y) qs _ hW (by omega) hQ.out.1 (by rw [← HN.out]; exact hQ.out.2.1) (q_end hXm.out hQ.out)).mono ?_
      rintro e w1 ⟨rfl, hC1, hG1⟩
      have hCr := HCR.out.kept hG1 (by simp)
      rw [wsuf_all hXm.out, Int.toNat_natCast] at hCr
      go_wp2
      go_ret2
      exact ⟨w.heap.size, w.heap.size + 1, rfl, Nat.le_refl _, by omega, by omega, hC1, hCr, hB.trans (gb_below hG1 (Nat.le_refl _) hB.size)⟩
end Go.Proofs.Wk
