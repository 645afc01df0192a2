/- THE PROGRAM's MAGNITUDES: read from a text. -/
import Derived.Test.YtjljappilpkelaaGreatDoorWhF
import Derived.Test.YtjljappilpkelaaGreatDoorWhB
namespace Go.Proofs.Wk
open Go.RowKit Mt

theorem zero_less (w : World) (s : Bool) : CW (w.alloc (.cells (Tryz.zeroCells73.setIfInBounds 0 (.bool s)) 73)) w.heap.size s 0 := by
  refine ⟨zero_max, wds_length 0, (heap_alloc_new w _).trans ?_⟩
  rw [zero_cells, wlen_zero]
  simp [wcells]

theorem chunk_long {p : Txt} (h : 9 ≤ p.length) : nat p = nat (p.take (p.length - 9)) * 1000000000 + nat (p.drop (p.length - 9)) := by
  have := nat_append (p.take (p.length - 9)) (p.drop (p.length - 9))
  rw [List.take_append_drop, List.length_drop, show p.length - (p.length - 9) = 9 by omega] at this
  exact this

set_option maxRecDepth 100000 in
set_option maxHeartbeats 1000000 in
theorem read_c (n : Int) (w : World) (hn : lng n ≤ 2088) : Calls Tryz.prog 42 #[.string ⟨(Lib.itoa n).toArray⟩] w (NewW w (decide (n < 0)) n.natAbs) := by
  have hneg := neg_itoa n
  have hnil := itoa_ne_nil n
  have hbody := body_itoa n
  have hall := allD_dec n.natAbs
  have hnat := nat_dec n.natAbs
  unfold lng at hn
  generalize Lib.decDigits n.natAbs = d at *
  obtain ⟨l, hl⟩ : ∃ l, Lib.itoa n = l := ⟨_, rfl⟩
  rw [hl] at hneg hnil hbody ⊢
  clear hl
  cases l with
  | nil => exact absurd rfl hnil
  | cons c t =>
    have hc : ((c.toNat : Int) == 45) = decide (n < 0) := by
      exact (u8_eq c 45 (k := 45) rfl).trans (by rw [← hneg]; rfl)
    have htp := TrimPrefix_c (c :: t)
    rw [hbody] at htp
    obtain ⟨sg, hsg⟩ : ∃ sg, decide (n < 0) = sg := ⟨_, rfl⟩
    rw [hsg] at hc ⊢
    have HT := Lib.hid htp; have HA := Lib.hid hall; have HN := Lib.hid hnat
    clear htp hall hnat hneg hbody hnil hsg
    go_enter Tryz.func42, Tryz.ntmps42
    go_wp2_with fail
    refine (HT.out _).mono ?_; rintro e w1 ⟨rfl, rfl⟩
    go_wp2_with fail
    go_loopw [3, 5] (fun ss _ wr => ∃ (p ws : _) (i : Nat), ss = .string ⟨(List.toArray p : Array UInt8)⟩ ∧ WB wr w.heap.size sg i ws ∧ i ≤ 232 ∧ (1 ≤ p.length → p.length + 9 * i ≤ 2088) ∧ Hid (okW ws) ∧ Hid (zeroFrom ws i) ∧ Hid (allD p = true) ∧ Hid (wval ws + 1000000000 ^ i * (nat p : Int) = n.natAbs) ∧ Below w.heap.size w wr) (fun ss _ _ => lenOf ss)
    case atStart =>
      have h0 := zero_less w sg
      refine ⟨d, wds 0, 0, rfl, by have := h0.2; rw [wlen_zero] at this; exact this, by omega, by omega, wds_ok 0, ?_, HA.out, ?_, (Below.refl _ _).alloc (Nat.le_refl _) _⟩
      · have := wds_zero (m := 0) zero_max; rw [wlen_zero] at this; exact this
      · show _ = _
        rw [wds_val zero_max, HN.out]; simp
    case round =>
      obtain ⟨p, ws, i, rfl, hW, hi, hpl, hok, hz, hpd, hv, hB⟩ := hrel
      by_cases h0 : 1 ≤ p.length
      · have hpl := hpl h0
        have hi2 : i < 232 := by omega
        clear hc
        obtain ⟨fr, hfr, hfl⟩ : ∃ fr, (fr = p.length - 9) ∧ fr ≤ p.length := ⟨_, rfl, by omega⟩
        obtain ⟨ck, hck⟩ : ∃ ck, p.drop fr = ck := ⟨_, rfl⟩
        have hckl : 1 ≤ ck.length := by rw [← hck]; simp; omega
        have hckl2 : ck.length ≤ 9 := by rw [← hck]; simp; omega
        have hckd : allD ck = true := by rw [← hck]; exact allD_drop hpd.out fr
        have hcklt : nat ck < 1000000000 := by
          have h1 := nat_lt ck hckd
          have h2 : 10 ^ ck.length ≤ 10 ^ 9 := pow_mono hckl2
          omega
        have hnp : (nat p : Int) = nat (p.take fr) * 1000000000 + nat ck := by
          by_cases h9 : 9 ≤ p.length
          · have := chunk_long h9
            rw [← hfr, hck] at this
            omega
          · have e0 : fr = 0 := by omega
            rw [e0] at hck
            rw [e0]
            rw [List.drop_zero] at hck
            rw [← hck, List.take_zero, nat_nil]; omega
        have hslice : p.length - fr = ck.length := by rw [← hck]; simp
        have HCK := Lib.hid hck; have HNP := Lib.hid hnp; have HCKD := Lib.hid hckd; have HFR := Lib.hid hfr; have HSL := Lib.hid hslice
        have HAT := Lib.hid (fun W => Atoi_ok ck (nat ck) W (by omega) (atoi_digits hckd (by intro e; rw [e] at hckl; simp at hckl) (by omega)))
        clear hck hnp hckd hslice
        have hmx : max (0 : Int) ((p.length : Int) - 9) = (fr : Int) := by omega
        clear hfr
        have hc1 := hW.c1
        have hwl : i < ws.length := by rw [hW.len]; exact hi2
        have hfr3 : (fr : Int) ≤ p.length := by omega
        have hi3 : (i : Int) < 232 := by omega
        have hgl : w.heap.size < wr.heap.size := hW.lt
        have htl : List.drop fr p = ck := HCK.out
        have htk2 : List.take (p.length - fr) ck = ck := by rw [HSL.out]; exact List.take_length
        go_upto_region 6 with fail
        go_cut [5] (fun s5 wx => s5 = .int .i64 fr ∧ WB wx w.heap.size sg i (ws.set i (nat ck)) ∧ Below w.heap.size w wx)
        case first =>
          go_region_with (go_at_call 56; (with_reducible refine (HAT.out _).mono ?_); rintro e w1 ⟨rfl, hb1⟩; have hW1 := hW.drew.later (B := wr.drew.heap.size) hb1 hgl; have hc1x := hW1.c1; have hf1x := hW1.free (2 + i); have hcw1x := hW1.cw hwl)
          all_goals (go_wp2_with fail; go_meet)
          all_goals exact ⟨rfl, hW1.setw i (nat ck) rfl, (hB.drew.trans (hb1.mono (Nat.le_of_lt hgl))).setCell (p := ⟨w.heap.size, 2 + i, none⟩) (Nat.le_refl _) _⟩
        case rest =>
          obtain ⟨rfl, hW2, hB2⟩ := hcut
          have hc2 := hW2.c1
          have hf2 := hW2.free 1
          have hnv : wval (ws.set i (nat ck)) + 1000000000 ^ (i + 1) * (nat (p.take fr) : Int) = n.natAbs := by
            have h1 := hv.out
            have h2 : ws[i] = 0 := hz.out i hwl (Nat.le_refl _)
            rw [wval_set ws i hwl, h2, Int.sub_zero, Int.pow_succ, ← h1, HNP.out, Int.mul_add]
            have e1 : 1000000000 ^ i * 1000000000 * (nat (p.take fr) : Int) = 1000000000 ^ i * ((nat (p.take fr) : Int) * 1000000000) := by
              rw [Int.mul_assoc, Int.mul_comm 1000000000]
            have e2 : (nat ck : Int) * 1000000000 ^ i = 1000000000 ^ i * (nat ck : Int) := Int.mul_comm _ _
            omega
          have hzs : zeroFrom (ws.set i (nat ck)) (i + 1) := zeroFrom_set (zeroFrom_mono hz.out (by omega)) (by omega) _
          have hos : okW (ws.set i (nat ck)) := okW_set hok.out i (by omega) (by omega)
          have hpd2 : allD (p.take fr) = true := allD_take hpd.out fr
          have hpl2 : 1 ≤ (p.take fr).length → (p.take fr).length + 9 * (i + 1) ≤ 2088 := by
            rw [List.length_take]
            have := HFR.out
            omega
          obtain ⟨p2, hp2⟩ : ∃ p2, p.take fr = p2 := ⟨_, rfl⟩
          have hlp2 : p2.length = fr := by rw [← hp2, List.length_take]; omega
          rw [hp2] at hnv hpd2 hpl2
          have hfrlt : fr < p.length := by have := HFR.out; omega
          have HLP := Lib.hid hlp2
          have HNV := Lib.hid hnv; have HZS := Lib.hid hzs; have HOS := Lib.hid hos; have HPD := Lib.hid hpd2; have HPL := Lib.hid hpl2
          clear hnv hzs hos hpd2 hpl2 hlp2 hv hz hok hpd hpl
          go_wp2
          go_roundw
          case rel => exact ⟨p2, _, i + 1, rfl, hW2.set1 _ (by go_num), by omega, HPL.out, HOS.out, HZS.out, HPD.out, HNV.out, hB2.setCell (p := ⟨w.heap.size, 1, none⟩) (Nat.le_refl _) _⟩
          case measure => rw [lenOf_mk, lenOf_mk, HLP.out]; exact hfrlt
      · have hp0 : p = [] := List.eq_nil_of_length_eq_zero (by omega)
        subst hp0
        have hv2 : wval ws = (n.natAbs : Nat) := by
          have := hv.out; rw [nat_nil] at this; simpa using this
        have HV2 := Lib.hid hv2
        clear hv2 hc
        go_wp2_with fail
        refine (trimmed_c w.heap.size sg i n.natAbs ws wr hW hi hok.out hz.out HV2.out).mono ?_
        rintro e w2 ⟨rfl, hC, hG2⟩
        go_wp2
        go_ret
        exact ⟨w.heap.size, rfl, Nat.le_refl _, hC, hB.trans (gb_below hG2 (Nat.le_refl _) hB.size)⟩
end Go.Proofs.Wk
