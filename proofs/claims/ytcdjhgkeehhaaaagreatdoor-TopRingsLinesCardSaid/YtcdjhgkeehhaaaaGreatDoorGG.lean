/- THE PROGRAM's MAGNITUDES: read from a text. -/
import Derived.Test.YtcdjhgkeehhaaaaGreatDoorGF
import Derived.Test.YtcdjhgkeehhaaaaGreatDoorGE
import Derived.Test.YtcdjhgkeehhaaaaGreatDoorGA
import Derived.Test.YtcdjhgkeehhaaaaGreatDoorBuild
namespace Go.Proofs.Wk
open Go.RowKit Mt

theorem zero_less (w : World) (s : Bool) : CW (w.alloc (.cells (Tryz.zeroCells160.setIfInBounds 0 (.bool s)) 160)) w.heap.size s 0 := by
  refine ⟨zero_max, wds_length 0, (heap_alloc_new w _).trans ?_⟩
  rw [zero_cells, wlen_zero]
  simp [wcells]

theorem chunk_long {p : Txt} (h : 9 ≤ p.length) : nat p = nat (p.take (p.length - 9)) * 1000000000 + nat (p.drop (p.length - 9)) := by
  have := nat_append (p.take (p.length - 9)) (p.drop (p.length - 9))
  rw [List.take_append_drop, List.length_drop, show p.length - (p.length - 9) = 9 by omega] at this
  exact this

set_option maxRecDepth 100000 in
set_option maxHeartbeats 1000000 in
theorem read_c (n : Int) (w : World) (hn : lng n ≤ 2088) : Calls Tryz.prog 63 #[.string ⟨(Lib.itoa n).toArray⟩] w (NewW w (decide (n < 0)) n.natAbs) := by
  have hneg := neg_itoa n
  have hnil := itoa_ne_nil n
  have hbody := body_itoa n
  have hall := allD_dec n.natAbs
  have hnat := nat_dec n.natAbs
  unfold lng at hn
  generalize Lib.decDigits n.natAbs = d at *
  obtain ⟨l, hl⟩ : ∃ l, Lib.itoa n = l := ⟨_, rfl⟩
  rw [hl] at hneg hnil hbody ⊢
  clear hl
  cases l with
  | nil => exact absurd rfl hnil
  | cons c t =>
    have hc : ((c.toNat : Int) == 45) = decide (n < 0) := by
      exact (u8_eq c 45 (k := 45) rfl).trans (by rw [← hneg]; rfl)
    have htp := TrimPrefix_c (c :: t)
    rw [hbody] at htp
    obtain ⟨sg, hsg⟩ : ∃ sg, decide (n < 0) = sg := ⟨_, rfl⟩
    rw [hsg] at hc ⊢
    have HT := Lib.hid htp; have HA := Lib.hid hall; have HN := Lib.hid hnat
    clear htp hall hnat hneg hbody hnil hsg
    go_enter Tryz.func63, Tryz.ntmps63
    go_wp2_with fail
    refine (HT.out _).mono ?_; rintro e w1 ⟨rfl, rfl⟩
    go_wp2_with fail
    go_loopw [3, 5] (fun ss _ wr => ∃ (p ws : _) (i : Nat), ss = .string ⟨(List.toArray p : Array UInt8)⟩ ∧ WB wr w.heap.size sg i ws ∧ i ≤ 232 ∧ (1 ≤ p.length → p.length + 9 * i ≤ 2088) ∧ Hid (okW ws) ∧ Hid (zeroFrom ws i) ∧ Hid (allD p = true) ∧ Hid (wval ws + 1000000000 ^ i * (nat p : Int) = n.natAbs) ∧ Below w.heap.size w wr) (fun ss _ _ => lenOf ss)
    case atStart =>
      have h0 := zero_less w sg
      refine ⟨d, wds 0, 0, rfl, by have := h0.2; rw [wlen_zero] at this; exact this, by omega, by omega, wds_ok 0, ?_, HA.out, ?_, (Below.refl _ _).alloc (Nat.le_refl _) _⟩
      · have := wds_zero (m := 0) zero_max; rw [wlen_zero] at this; exact this
      · show _ = _
        rw [wds_val zero_max, HN.out]; simp
    case round =>
      obtain ⟨p, ws, i, rfl, hW, hi, hpl, hok, hz, hpd, hv, hB⟩ := hrel
      by_cases h0 : 1 ≤ p.length
      · have hpl := hpl h0
        have hi2 : i < 232 := by omega
        clear hc
        obtain ⟨fr, hfr, hfl⟩ : ∃ fr, (fr = p.length - 9) ∧ fr ≤ p.length := ⟨_, rfl, by omega⟩
        obtain ⟨ck, hck⟩ : ∃ ck, p.drop fr = ck := ⟨_, rfl⟩
        have hckl : 1 ≤ ck.length := by rw [← hck]; simp; omega
        have hckl2 : ck.length ≤ 9 := by rw [← hck]; simp; omega
        have hckd : allD ck = true := by rw [← hck]; exact allD_drop hpd.out fr
        have hcklt : nat ck < 1000000000 := by
          have h1 := nat_lt ck hckd
          have h2 : 10 ^ ck.length ≤ 10 ^ 9 := pow_mono hckl2
          omega
        have hnp : (nat p : Int) = nat (p.take fr) * 1000000000 + nat ck := by
          by_cases h9 : 9 ≤ p.length
          · have := chunk_long h9
            rw [← hfr, hck] at this
            omega
          · have e0 : fr = 0 := by omega
            rw [e0] at hck
            rw [e0]
            rw [List.drop_zero] at hck
            rw [← hck, List.take_zero, nat_nil]; omega
        have hslice : p.length - fr = ck.length := by rw [← hck]; simp
        have HCK := Lib.hid hck; have HNP := Lib.hid hnp; have HCKD := Lib.hid hckd; have HFR := Lib.hid hfr; have HSL := Lib.hid hslice
        have HAT := Lib.hid (fun W => Atoi_ok ck (nat ck) W (by omega) (atoi_digits hckd (by intro e; rw [e] at hckl; simp at hckl) (by omega)))
        clear hck hnp hckd hslice
        have hmx : max (0 : Int) ((p.length : Int) - 9) = (fr : Int) := by omega
        clear hfr
        have hc1 := hW.c1
        have hwl : i < ws.length := by rw [hW.len]; exact hi2
        have hfr3 : (fr : Int) ≤ p.length := by omega
        have hi3 : (i : Int) < 232 := by omega
        have hgl : w.heap.size < wr.heap.size := hW.lt
        have htl : List.drop fr p = ck := HCK.out
        have htk2 : List.take (p.length - fr) ck = ck := by rw [HSL.out]; exact List.take_length
        go_upto_region 6 with fail
        go_cut [5] (fun s5 wx => s5 = .int .i64 fr ∧ WB wx w.heap.size sg i (ws.set i (nat ck)) ∧ Below w.heap.size w wx)
        case first =>
          go_region_with (go_at_call 98; (with_reducible refine (HAT.out _).mono ?_); rintro e w1 ⟨rfl, hb1⟩; have hW1 := hW.drew.later (B := wr.drew.heap.size) hb1 hgl; have hc1x := hW1.c1; have hf1x := hW1.free (2 + i); have hcw1x := hW1.cw hwl)
          all_goals (go_wp2_with fail; go_meet)
          all_goals exact ⟨rfl, hW1.setw i (nat ck) rfl, (hB.drew.trans (hb1.mono (Nat.le_of_lt hgl))).setCell (p := ⟨w.heap.size, 2 + i, none⟩) (Nat.le_refl _) _⟩
        case rest =>
          obtain ⟨rfl, hW2, hB2⟩ := hcut
          have hc2 := hW2.c1
          have hf2 := hW2.free 1
          have hnv : wval (ws.set i (nat ck)) + 1000000000 ^ (i + 1) * (nat (p.take fr) : Int) = n.natAbs := by
            have h1 := hv.out
            have h2 : ws[i] = 0 := hz.out i hwl (Nat.le_refl _)
            rw [wval_set ws i hwl, h2, Int.sub_zero, Int.pow_succ, ← h1, HNP.out, Int.mul_add]
            have e1 : 1000000000 ^ i * 1000000000 * (nat (p.take fr) : Int) = 1000000000 ^ i * ((nat (p.take fr) : Int) * 1000000000) := by
              rw [Int.mul_assoc, Int.mul_comm 1000000000]
            have e2 : (nat ck : Int) * 1000000000 ^ i = 1000000000 ^ i * (nat ck : Int) := Int.mul_comm _ _
            omega
          have hzs : zeroFrom (ws.set i (nat ck)) (i + 1) := zeroFrom_set (zeroFrom_mono hz.out (by omega)) (by omega) _
          have hos : okW (ws.set i (nat ck)) := okW_set hok.out i (by omega) (by omega)
          have hpd2 : allD (p.take fr) = true := allD_take hpd.out fr
          have hpl2 : 1 ≤ (p.take fr).length → (p.take fr).length + 9 * (i + 1) ≤ 2088 := by
            rw [List.length_take]
            have := HFR.out
            omega
          obtain ⟨p2, hp2⟩ : ∃ p2, p.take fr = p2 := ⟨_, rfl⟩
          have hlp2 : p2.length = fr := by rw [← hp2, List.length_take]; omega
          rw [hp2] at hnv hpd2 hpl2
          have hfrlt : fr < p.length := by have := HFR.out; omega
          have HLP := Lib.hid hlp2
          have HNV := Lib.hid hnv; have HZS := Lib.hid hzs; have HOS := Lib.hid hos; have HPD := Lib.hid hpd2; have HPL := Lib.hid hpl2
          clear hnv hzs hos hpd2 hpl2 hlp2 hv hz hok hpd hpl
          go_wp2
          go_roundw
          case rel => exact ⟨p2, _, i + 1, rfl, hW2.set1 _ (by go_num), by omega, HPL.out, HOS.out, HZS.out, HPD.out, HNV.out, hB2.setCell (p := ⟨w.heap.size, 1, none⟩) (Nat.le_refl _) _⟩
          case measure => rw [lenOf_mk, lenOf_mk, HLP.out]; exact hfrlt
      · have hp0 : p = [] := List.eq_nil_of_length_eq_zero (by omega)
        subst hp0
        have hv2 : wval ws = (n.natAbs : Nat) := by
          have := hv.out; rw [nat_nil] at this; simpa using this
        have HV2 := Lib.hid hv2
        clear hv2 hc
        go_wp2_with fail
        refine (trimmed_c w.heap.size sg i n.natAbs ws wr hW hi hok.out hz.out HV2.out).mono ?_
        rintro e w2 ⟨rfl, hC, hG2⟩
        go_wp2
        go_ret
        exact ⟨w.heap.size, rfl, Nat.le_refl _, hC, hB.trans (gb_below hG2 (Nat.le_refl _) hB.size)⟩
end Go.Proofs.Wk
/- THE PROGRAM's MAGNITUDES: written as a text. -/
namespace Go.Proofs.Wk
open Go.RowKit Mt

theorem Itoa_nat (n : Nat) (w : World) (hg : Good w) (h1 : n ≤ 9223372036854775807) :
    Calls Tryz.prog 93 #[.int .i64 (n : Int)] w (Ret w (.string ⟨(Lib.decDigits n).toArray⟩)) := by
  have := Itoa_c n w hg (by omega) (by omega)
  rwa [itoa_nat] at this
theorem Bld.fresh (w : World) : Bld w.heap.size w.heap.size [] (w.alloc (.cells #[.pointer none, .slice none 0 0] 195)) := Lib.IsBuilderF.of (Lib.fresh_isBuilder 195 5 w)
theorem Bld.lt {B b : Nat} {l : List UInt8} {w : World} (h : Bld B b l w) : b < w.heap.size := by
  rcases h with h | h <;> exact h.lt
theorem Bld.later {B b : Nat} {l : List UInt8} {w w' : World} (h : Bld B b l w) (hb : Below w.heap.size w w') : Bld B b l w' := by
  have hg : w.grownBy w' none := ⟨hb.os, hb.tape, hb.output, hb.size, fun k hk _ => hb.block k hk⟩
  have one : ∀ p, Lib.BuilderAtF 195 5 B b p (Lib.byteCells l) w → Lib.BuilderAtF 195 5 B b p (Lib.byteCells l) w' := by
    rintro p ⟨h1, v, h2, h3, h4⟩
    exact ⟨h1, v, by rw [hb.block b (Array.getElem?_eq_some_iff.1 h2).1]; exact h2, h3.kept hg (by cases hv : v.ownBlock <;> simp), h4⟩
  exact h.elim (fun x => .inl (one _ x)) (fun x => .inr (one _ x))
theorem Bld.drew {B b : Nat} {l : List UInt8} {w : World} (h : Bld B b l w) : Bld B b l w.drew := h.later ((Below.refl _ _).drew)
theorem Good.drew {w : World} (h : Good w) : Good w.drew := h.later ((Below.refl _ _).drew)

set_option maxRecDepth 100000 in
set_option maxHeartbeats 4000000 in
theorem text_zero (b : Nat) (s : Bool) (w : World) (h : CW w b s 0) : Calls Tryz.prog 96 #[.pointer (some ⟨b, 0, none⟩)] w (Pur w (.string ⟨#[48]⟩)) := by
  have h1 := h.2.c1
  rw [wlen_zero] at h1
  go_enter Tryz.func96, Tryz.ntmps96
  go_wp2
  go_ret
  exact ⟨rfl, rfl⟩

set_option maxRecDepth 100000 in
set_option maxHeartbeats 4000000 in
theorem text_pos (b : Nat) (s : Bool) (X : Nat) (w : World) (h : CW w b s X) (h0 : X ≠ 0) (hg : Good w) :
    Calls Tryz.prog 96 #[.pointer (some ⟨b, 0, none⟩)] w (Ret w (.string ⟨((if s then [45] else []) ++ Lib.decDigits X).toArray⟩)) := by
  have hn0 : wlen X ≠ 0 := fun e => h0 (wlen_eq_zero.1 e)
  have hlt := h.lt
  have hl := h.wl
  have htop := tdig_top h.1 h0
  have hall := tdig_all h.1
  have hwt := wat_bd X (wlen X - 1)
  obtain ⟨n, hn⟩ : ∃ n, wlen X = n + 1 := ⟨wlen X - 1, by omega⟩
  rw [show wlen X - 1 = n by omega] at htop hwt
  have hlen0 := tdig_len h.1 (k := n) (by omega)
  have HC := Lib.hid h; have H0 := Lib.hid h0; have HG := Lib.hid hg; have HTOP := Lib.hid htop; have HALL := Lib.hid hall; have HN := Lib.hid hn
  have hn232 : n < 232 := by omega
  clear h h0 hg htop hall hn0 hl
  have hB0 : Below w.heap.size w (w.alloc (.cells #[.pointer none, .slice none 0 0] 195)) := (Below.refl _ _).alloc (Nat.le_refl _) _
  have h00 := HC.out.2.c0
  have h11 := HC.out.2.c1
  rw [hn] at h11
  clear hn
  have hiw : n < (wds X).length := by rw [wds_length]; exact hn232
  have hcw := HC.out.2.cw hiw
  rw [wat_get hiw] at hcw
  obtain ⟨y, hy⟩ : ∃ y : Nat, wat X n = (y : Int) := ⟨(wat X n).toNat, by omega⟩
  rw [hy] at hcw hwt HTOP
  have hyb : y < 1000000000 := by omega
  have HY := Lib.hid hy
  clear hy hwt
  obtain ⟨l0, hl0, hl0l⟩ : ∃ l0 : Txt, (if s then [45] else []) = l0 ∧ l0.length ≤ 1 := ⟨_, rfl, by cases s <;> simp⟩
  rw [hl0]
  go_enter Tryz.func96, Tryz.ntmps96
  go_upto_if 14 with fail
  go_cut [3] (fun s3 wx => s3 = .pointer (some ⟨w.heap.size, 0, none⟩) ∧ Bld w.heap.size w.heap.size l0 wx ∧ Below w.heap.size w wx)
  case first =>
    cases s with
    | true =>
      subst hl0
      go_wp2_with fail
      refine (WriteByte_c w.heap.size w.heap.size [] 45 _ (Bld.fresh w) (by simp) hB0.size).mono ?_
      rintro e w1 ⟨rfl, hb1, hbl1⟩
      go_wp2_with fail
      go_meet
      exact ⟨rfl, hb1, hB0.trans hbl1⟩
    | false =>
      subst hl0
      go_wp2_with fail
      go_meet
      exact ⟨rfl, Bld.fresh w, hB0⟩
  case rest =>
    obtain ⟨rfl, hbx, hBx⟩ := hcut
    have HL0 := Lib.hid hl0
    clear hl0 hB0
    have hCx := HC.out.later hBx hlt
    have h1x := hCx.2.c1
    have hcwx := hCx.2.cw hiw
    rw [wat_get hiw, HY.out] at hcwx
    have hnw := HN.out
    rw [hnw] at h1x
    have HGX := Lib.hid (HG.out.later hBx)
    have HCX := Lib.hid hCx
    have hn3 : (n : Int) < 232 := by omega
    have hyl : (Lib.decDigits y).length ≤ 9 := dec_nine hyb
    clear hCx hnw h00 h11 hcw
    go_upto_region 6 with fail
    have hsub : (n : Int) + 1 - 1 = (n : Int) := by omega
    have hwn : IntKind.i64.wrap (n : Int) = (n : Int) := IntWalk.i64_in _ (by omega)
    have hwn1 : IntKind.i64.wrap ((n : Int) + 1) = (n : Int) + 1 := IntWalk.i64_in _ (by omega)
    go_cut [3] (fun s3 wz => s3 = .pointer (some ⟨w.heap.size, 0, none⟩) ∧ Bld w.heap.size w.heap.size (l0 ++ Lib.decDigits y) wz ∧ Below w.heap.size w wz)
    case first =>
      go_region_with (first | (go_at_call 93; (with_reducible refine (Itoa_nat y _ HGX.out.drew (by omega)).mono ?_); rintro e w1 ⟨rfl, hb1⟩) | (go_at_call 133;  (with_reducible refine (WriteString_c w.heap.size w.heap.size l0 (Lib.decDigits y) _ (hbx.drew.later hb1) (by omega) (by omega) (Nat.le_trans hBx.drew.size hb1.size)).mono ?_); rintro e w2 ⟨rfl, hb2, hbl2⟩))
      all_goals (go_wp2_with fail; go_meet)
      all_goals exact ⟨rfl, hb2, (hBx.drew.trans (hb1.mono hBx.drew.size)).trans hbl2⟩
    case rest =>
      obtain ⟨rfl, hbz, hBz⟩ := hcut
      have hCz := HC.out.later hBz hlt
      have h1z := hCz.2.c1
      rw [HN.out] at h1z
      clear hCz
      have hn2 : IntKind.i64.wrap ((n : Int) + 1 - 2) = (n : Int) + 1 - 2 := IntWalk.i64_in _ (by omega)
      go_wp2_with fail
      go_loopw [4] (fun s4 wr => ∃ k : Nat, s4 = .int .i64 ((k : Int) - 1) ∧ k ≤ n ∧ Bld w.heap.size w.heap.size (l0 ++ tdig X k) wr ∧ Below w.heap.size w wr) (fun i _ => (intOf i + 1).toNat)
      case atStart =>
        exact ⟨n, by go_num, Nat.le_refl _, by rw [HTOP.out]; exact hbz, hBz⟩
      case round =>
        obtain ⟨k, rfl, hk, hb, hB⟩ := hrel
        by_cases h0 : 1 ≤ k
        · obtain ⟨i, rfl⟩ : ∃ i, k = i + 1 := ⟨k - 1, by omega⟩
          rw [show (((i + 1 : Nat) : Int) - 1) = (i : Int) by omega]
          have hiw : i < (wds X).length := by rw [wds_length]; omega
          have hCr := HC.out.later hB hlt
          have hcr := hCr.2.cw hiw
          rw [wat_get hiw] at hcr
          have hst := tdig_step HCX.out.1 H0.out (k := i) (by have := HN.out; omega)
          have hwb := wat_bd X i
          have htl := tdig_len HCX.out.1 (k := i + 1) (by omega)
          obtain ⟨d, hd⟩ : ∃ d : Nat, wat X i = (d : Int) := ⟨(wat X i).toNat, by omega⟩
          rw [hd] at hcr hst hwb
          rw [Int.toNat_natCast] at hst
          have hdb : d < 1000000000 := by omega
          have hdl : (Lib.decDigits d).length ≤ 9 := dec_nine hdb
          have hpl := pad9_length hdb
          have hzd := zeros_drop (Lib.decDigits d).length
          have hpd : List.replicate (9 - (Lib.decDigits d).length) 48 ++ Lib.decDigits d = pad9 d := rfl
          have HST := Lib.hid hst; have HPL := Lib.hid hpl
          have HGR := Lib.hid (HG.out.later hB)
          have hi3 : (i : Int) < 232 := by omega
          clear hCr hst hwb hpl hd
          go_upto_region 11 with fail
          go_wp2_with fail
          refine (Itoa_nat d _ HGR.out (by omega)).mono ?_
          rintro e w1 ⟨rfl, hb1⟩
          go_wp2_with fail
          have hcat : ((⟨Array.replicate (9 - (Lib.decDigits d).length) 48⟩ : ByteArray) ++ (⟨(Lib.decDigits d).toArray⟩ : ByteArray)) = ⟨(pad9 d).toArray⟩ := by
            rw [← hpd, ← append_mk, List.toArray_replicate]
          rw [hcat]
          refine (WriteString_c w.heap.size w.heap.size (l0 ++ tdig X (i + 1)) (pad9 d) _ (hb.later hb1) (by rw [List.length_append]; omega) (by rw [HPL.out]; omega) (Nat.le_trans hB.size hb1.size)).mono ?_
          rintro e w2 ⟨rfl, hb2, hbl2⟩
          rw [List.append_assoc, ← HST.out] at hb2
          go_wp2
          go_roundw
          case rel => exact ⟨i, by go_num, by omega, hb2, (hB.trans (hb1.mono hB.size)).trans hbl2⟩
          case measure => simp [intOf]
        · obtain rfl : k = 0 := by omega
          rw [HALL.out] at hb
          go_wp2_with fail
          refine (Tryz.Builder_String_any_k w.heap.size w.heap.size _ _ hb hB.size).mono ?_
          rintro e w1 ⟨rfl, hb1, hbl1, -⟩
          go_wp2
          go_ret
          exact ⟨rfl, hB.trans hbl1⟩
end Go.Proofs.Wk
/- THE PROGRAM's MAGNITUDES: a text that is not too long; how often one may be taken off another one. -/
namespace Go.Proofs.Wk
open Go.RowKit Mt

/-- The integer that a sign and a magnitude stand for. -/
def sg (s : Bool) (X : Nat) : Int := if s then -(X : Int) else X
theorem sg_abs (s : Bool) (X : Nat) : (sg s X).natAbs = X := by cases s <;> simp [sg]
theorem itoa_sg {s : Bool} {X : Nat} (h : X ≠ 0) : Lib.itoa (sg s X) = (if s then [45] else []) ++ Lib.decDigits X := by
  cases s
  · simp [sg, itoa_nat]
  · have h1 : (-(X : Int)) < 0 := by omega
    have h2 : (-(X : Int)).natAbs = X := by omega
    show Lib.itoa (-(X : Int)) = _
    unfold Lib.itoa
    rw [if_pos h1, h2]; rfl
theorem itoa_sg0 (s : Bool) : Lib.itoa (sg s 0) = [48] := by
  rw [show sg s 0 = ((0 : Nat) : Int) by cases s <;> rfl, itoa_nat, dec_zero]

theorem text_c (b : Nat) (s : Bool) (X : Nat) (w : World) (h : CW w b s X) (hg : Good w) :
    Calls Tryz.prog 96 #[.pointer (some ⟨b, 0, none⟩)] w (Ret w (.string ⟨(Lib.itoa (sg s X)).toArray⟩)) := by
  by_cases h0 : X = 0
  · subst h0
    refine (text_zero b s w h).mono ?_
    rintro e w' ⟨rfl, rfl⟩
    refine ⟨?_, Below.refl _ _⟩
    rw [itoa_sg0]
  · rw [itoa_sg h0]
    exact text_pos b s X w h h0 hg
theorem itoa_len_sg {s : Bool} {X : Nat} (h : X < wmax) : (Lib.itoa (sg s X)).length ≤ 2089 := by
  have h1 := (wlen_le 232 X).1 (wmax_le.1 h)
  have h2 := dlen_words X 232 (by omega) h1
  by_cases h0 : X = 0
  · subst h0; rw [itoa_sg0]; decide
  · rw [itoa_sg h0]; cases s <;> simp <;> omega

theorem kept_chk (n : Int) : kept n = if chk (Lib.itoa n) = 0 then (Lib.itoa n, 0) else ([], chk (Lib.itoa n)) := by
  unfold kept
  rw [chk_itoa]
  by_cases hlt : n.natAbs < big
  · simp only [if_pos hlt, if_true]
  · simp only [if_neg hlt]; rw [if_neg (by decide)]
theorem chk_itoa_or (n : Int) : chk (Lib.itoa n) = 0 ∨ chk (Lib.itoa n) = 11 := by
  rw [chk_itoa]
  by_cases hlt : n.natAbs < big
  · exact .inl (if_pos hlt)
  · exact .inr (if_neg hlt)

set_option maxRecDepth 100000 in
set_option maxHeartbeats 1000000 in
theorem limited_w0 (b : Nat) (l : Txt) (w : World) (ht : Calls Tryz.prog 96 #[.pointer (some ⟨b, 0, none⟩)] w (Ret w (.string ⟨l.toArray⟩))) (hl : l.length ≤ 2089) (c : Int) (hc : chk l = c) (hcc : c = 0) :
    Calls Tryz.prog 65 #[.pointer (some ⟨b, 0, none⟩)] w (Ret w (ans2 (l, 0))) := by
  have HC := Lib.hid hc; have HT := Lib.hid ht
  clear hc ht
  subst hcc
  go_enter Tryz.func65, Tryz.ntmps65
  go_wp2_with fail
  refine HT.out.mono ?_
  rintro e w1 ⟨rfl, hb1⟩
  go_wp2_with fail
  refine (wCheck_c l w1 (by omega)).mono ?_
  rintro e w2 ⟨rfl, hb2⟩
  have hB := hb1.trans (hb2.mono hb1.size)
  rw [HC.out]
  go_wp2
  go_ret2
  exact ⟨rfl, hB⟩
set_option maxRecDepth 100000 in
set_option maxHeartbeats 1000000 in
theorem limited_w1 (b : Nat) (l : Txt) (w : World) (ht : Calls Tryz.prog 96 #[.pointer (some ⟨b, 0, none⟩)] w (Ret w (.string ⟨l.toArray⟩))) (hl : l.length ≤ 2089) (c : Int) (hc : chk l = c) (hcc : c = 11) :
    Calls Tryz.prog 65 #[.pointer (some ⟨b, 0, none⟩)] w (Ret w (ans2 ([], 11))) := by
  have HC := Lib.hid hc; have HT := Lib.hid ht
  clear hc ht
  subst hcc
  go_enter Tryz.func65, Tryz.ntmps65
  go_wp2_with fail
  refine HT.out.mono ?_
  rintro e w1 ⟨rfl, hb1⟩
  go_wp2_with fail
  refine (wCheck_c l w1 (by omega)).mono ?_
  rintro e w2 ⟨rfl, hb2⟩
  have hB := hb1.trans (hb2.mono hb1.size)
  rw [HC.out]
  go_wp2
  go_ret2
  exact ⟨rfl, hB⟩
theorem limited_c (b : Nat) (s : Bool) (X : Nat) (w : World) (h : CW w b s X) (hg : Good w) :
    Calls Tryz.prog 65 #[.pointer (some ⟨b, 0, none⟩)] w (Ret w (ans2 (kept (sg s X)))) := by
  have hl := itoa_len_sg (s := s) h.1
  have ht := text_c b s X w h hg
  rw [kept_chk]
  rcases chk_itoa_or (sg s X) with h0 | h0
  · rw [h0, if_pos rfl]; exact limited_w0 b _ w ht hl 0 h0 rfl
  · rw [h0, if_neg (by decide)]; exact limited_w1 b _ w ht hl 11 h0 rfl

/-! ### how often -/
set_option maxRecDepth 100000 in
set_option maxHeartbeats 4000000 in
theorem top_c (b : Nat) (s : Bool) (X i : Nat) (w : World) (h : CW w b s X) (hi : i ≤ 1000) :
    Calls Tryz.prog 158 #[.pointer (some ⟨b, 0, none⟩), .int .i64 (i : Int)] w (Pur w (.int .i64 (wat X i))) := by
  have hc1 := h.2.c1
  have hm := h.1
  have hwl := wmax_le.1 hm
  by_cases hlt : i < wlen X
  · have hiw : i < (wds X).length := by rw [wds_length]; omega
    have hcw := h.2.cw hiw
    rw [wat_get hiw] at hcw
    have hi3 : (i : Int) < 232 := by omega
    generalize wat X i = y at *
    generalize wlen X = n at *
    clear h hm
    go_enter Tryz.func158, Tryz.ntmps158
    go_wp2
    go_ret
    exact ⟨rfl, rfl⟩
  · rw [wat_zero hm (by omega)]
    generalize wlen X = n at *
    clear h hm
    go_enter Tryz.func158, Tryz.ntmps158
    go_wp2
    go_ret
    exact ⟨rfl, rfl⟩

theorem quiet_pur {f : FuncId} {args : Array Value} {w : World} {n : Nat} {v : Value} (h : Calls Tryz.prog f args (w.drewN n) (Pur (w.drewN n) v)) :
    Calls Tryz.prog f args (w.drewN n) fun e w'' => e = .returned v ∧ ∃ m, w'' = w.drewN m := Calls.quiet_of_same (h.mono fun _ _ ⟨a, b⟩ => ⟨a, b.symm⟩)
theorem est_law {X Y n : Nat} (hX : X < wmax) (hY : Y < wmax) (hn : wlen Y = n + 1) {b k : Int} (hb : b = wat Y n + (if n = 0 then 0 else 1)) (hk0 : 0 ≤ k)
    (hk : k * b ≤ wat X (n + 1) * 1000000000 + wat X n) : k * Y ≤ X := by
  have hYl := wmax_le.1 hY
  have e1 := wsplit X n hX (by omega)
  have e2 := wsplit Y n hY (by omega)
  have hs0 : wsuf Y (n + 1) = 0 := wsuf_zero hY (by omega)
  have e3 := wsuf_succ (X := Y) (k := n) (by omega)
  have e4 := wsuf_succ (X := X) (k := n) (by omega)
  have b1 := wpre_bd X n (by omega)
  have b2 := wpre_bd Y n (by omega)
  have e5 : wat X (n + 1) ≤ wsuf X (n + 1) := by
    by_cases h : n + 1 < 232
    · have := wsuf_succ (X := X) (k := n + 1) h
      have : 0 ≤ wsuf X (n + 1 + 1) := wsuf_bd X (n + 1 + 1)
      omega
    · have hxl := wmax_le.1 hX
      rw [wat_zero hX (by omega)]
      exact wsuf_bd X (n + 1)
  have e6 : k * b ≤ wsuf X n := by omega
  rw [hs0] at e3
  rw [e2, e3, e1]
  have hp : (Y : Int) ≤ 1000000000 ^ n * b := by
    rw [e2, e3, hb]
    split
    · next h0 => subst h0; rw [wpre_zero]; simp
    · rw [Int.mul_add, Int.mul_add]; omega
  rw [e2, e3] at hp
  have h7 : k * (wpre Y n + 1000000000 ^ n * (wat Y n + 1000000000 * 0)) ≤ k * (1000000000 ^ n * b) := Int.mul_le_mul_of_nonneg_left hp hk0
  have h8 : (1000000000 : Int) ^ n * (k * b) ≤ 1000000000 ^ n * wsuf X n := Int.mul_le_mul_of_nonneg_left e6 (by omega)
  have h9 : k * (1000000000 ^ n * b) = 1000000000 ^ n * (k * b) := by rw [← Int.mul_assoc, Int.mul_comm k, Int.mul_assoc]
  omega

theorem est_div {A b k : Int} (hA : 0 ≤ A) (hb : 1 ≤ b) (hk : A.tdiv b = k) : 0 ≤ k ∧ k * b ≤ A ∧ k ≤ A := by
  subst hk
  rw [Int.tdiv_eq_ediv_of_nonneg hA]
  have h1 : 0 ≤ A / b := Int.ediv_nonneg hA (by omega)
  have h2 : A / b * b ≤ A := Int.ediv_mul_le A (by omega)
  have h3 : A / b * 1 ≤ A / b * b := Int.mul_le_mul_of_nonneg_left hb h1
  exact ⟨h1, h2, by omega⟩
theorem est_less {A b k k2 : Int} (h : k * b ≤ A) (hb : 1 ≤ b) (hk : k2 ≤ k) : k2 * b ≤ A := by
  have h3 : k2 * b ≤ k * b := Int.mul_le_mul_of_nonneg_right hk (by omega)
  omega
/-- What an estimate answers: at least 1, a word, and never too much. -/
def Est (w : World) (X Y : Nat) (e : Ending) (w' : World) : Prop := ∃ k : Int, e = .returned (.int .i64 k) ∧ 1 ≤ k ∧ k ≤ 999999999 ∧ k * Y ≤ X ∧ ∃ q, w' = w.drewN q

set_option maxRecDepth 100000 in
set_option maxHeartbeats 1000000 in
theorem estimate_c (bx bz : Nat) (sx sy : Bool) (X Y : Nat) (w : World) (hx : CW w bx sx X) (hy : CW w bz sy Y) (h0 : Y ≠ 0) (hle : Y ≤ X) :
    Calls Tryz.prog 131 #[.pointer (some ⟨bx, 0, none⟩), .pointer (some ⟨bz, 0, none⟩)] w (Est w X Y) := by
  have hn0 : wlen Y ≠ 0 := fun e => h0 (wlen_eq_zero.1 e)
  have hYl := hy.wl
  obtain ⟨n, hn⟩ : ∃ n, wlen Y = n + 1 := ⟨wlen Y - 1, by omega⟩
  have hc1 := hy.2.c1
  rw [hn] at hc1
  have hlaw := fun b k (h1 : b = _) => @est_law X Y n hx.1 hy.1 hn b k h1
  have hb1 := wat_bd X (n + 1)
  have hb2 := wat_bd X n
  have hb3 := wat_bd Y n
  have htop : 1 ≤ wat Y n := by
    have := (wtop_ne hy.1 h0).2
    rw [hn] at this
    simp at this
    omega
  have HX := Lib.hid hx; have HY := Lib.hid hy; have HN := Lib.hid hn; have HL := Lib.hid hlaw; have HLE := Lib.hid hle
  have hnl : n ≤ 231 := by omega
  clear hx hy hn hlaw hle hn0 h0 hYl
  have t1 : Hid (∀ q, Calls Tryz.prog 158 #[.pointer (some ⟨bx, 0, none⟩), .int .i64 ((n : Int) + 1)] (w.drewN q) (fun e w'' => e = .returned (.int .i64 (wat X (n + 1))) ∧ ∃ m, w'' = w.drewN m)) := Lib.hid (fun q => by
    have := top_c bx sx X (n + 1) (w.drewN q) ⟨HX.out.1, HX.out.2.drewN q⟩ (by omega)
    exact quiet_pur this)
  have t2 : Hid (∀ q, Calls Tryz.prog 158 #[.pointer (some ⟨bx, 0, none⟩), .int .i64 (n : Int)] (w.drewN q) (fun e w'' => e = .returned (.int .i64 (wat X n)) ∧ ∃ m, w'' = w.drewN m)) := Lib.hid (fun q => quiet_pur (top_c bx sx X n (w.drewN q) ⟨HX.out.1, HX.out.2.drewN q⟩ (by omega)))
  have t3 : Hid (∀ q, Calls Tryz.prog 158 #[.pointer (some ⟨bz, 0, none⟩), .int .i64 (n : Int)] (w.drewN q) (fun e w'' => e = .returned (.int .i64 (wat Y n)) ∧ ∃ m, w'' = w.drewN m)) := Lib.hid (fun q => quiet_pur (top_c bz sy Y n (w.drewN q) ⟨HY.out.1, HY.out.2.drewN q⟩ (by omega)))
  obtain ⟨a1, ha1⟩ : ∃ x, wat X (n + 1) = x := ⟨_, rfl⟩
  obtain ⟨a2, ha2⟩ : ∃ x, wat X n = x := ⟨_, rfl⟩
  obtain ⟨a3, ha3⟩ : ∃ x, wat Y n = x := ⟨_, rfl⟩
  rw [ha1] at hb1 t1 HL
  rw [ha2] at hb2 t2 HL
  rw [ha3] at hb3 htop t3 HL
  clear ha1 ha2 ha3
  have hsub : (n : Int) + 1 - 1 = (n : Int) := by omega
  have hwn : IntKind.i64.wrap (n : Int) = (n : Int) := IntWalk.i64_in _ (by omega)
  have hwn1 : IntKind.i64.wrap ((n : Int) + 1) = (n : Int) + 1 := IntWalk.i64_in _ (by omega)
  go_enter Tryz.func131, Tryz.ntmps131
  go_wp2_with fail
  go_quiet (first | (go_at_call 158; with_reducible exact t1.out _) | (go_at_call 158; with_reducible exact t2.out _) | (go_at_call 158; with_reducible exact t3.out _))
  have ha0 : 0 ≤ a1 * 1000000000 + a2 := by omega
  have ha1 : a1 * 1000000000 + a2 < 1000000000000000000 := by omega
  obtain ⟨A, hA⟩ : ∃ A, a1 * 1000000000 + a2 = A := ⟨_, rfl⟩
  rw [hA] at ha0 ha1 HL
  rw [hA]
  clear hA hsub hwn hwn1 t1 t2 t3
  by_cases hz : n = 0
  · subst hz
    have hlaw := fun k => HL.out a3 k (by simp)
    have HLAW := Lib.hid hlaw
    clear hlaw HL
    obtain ⟨kq, hkq⟩ : ∃ kq, A.tdiv a3 = kq := ⟨_, rfl⟩
    obtain ⟨hk0, hk1, hk2⟩ := est_div ha0 htop hkq
    have HK1 := Lib.hid hk1
    clear hk1
    by_cases hpos : 0 < kq
    · by_cases hmn : kq ≤ 999999999
      · go_wp2
        go_ret
        exact ⟨kq, by first | rfl | (rw [Int.min_def]; simp [hmn]), hpos, hmn, HLAW.out kq hk0 HK1.out, _, rfl⟩
      · have hb5 := est_less HK1.out (k2 := 999999999) (by omega) (by omega)
        have HB5 := Lib.hid hb5
        clear hb5
        go_wp2
        go_ret
        exact ⟨999999999, by first | rfl | (rw [Int.min_def, if_neg (by omega)]; rfl), by omega, by omega, HLAW.out _ (by omega) HB5.out, _, rfl⟩
    · go_wp2
      go_ret
      refine ⟨1, rfl, by omega, by omega, ?_, _, rfl⟩
      have := HLE.out
      omega
  · have hz2 : 1 ≤ n := by omega
    have hlaw := fun k => HL.out (a3 + 1) k (by rw [if_neg hz])
    have HLAW := Lib.hid hlaw
    clear hlaw HL
    obtain ⟨kq, hkq⟩ : ∃ kq, A.tdiv (a3 + 1) = kq := ⟨_, rfl⟩
    obtain ⟨hk0, hk1, hk2⟩ := est_div ha0 (by omega) hkq
    have HK1 := Lib.hid hk1
    clear hk1
    by_cases hpos : 0 < kq
    · by_cases hmn : kq ≤ 999999999
      · go_wp2
        go_ret
        exact ⟨kq, by first | rfl | (rw [Int.min_def]; simp [hmn]), hpos, hmn, HLAW.out kq hk0 HK1.out, _, rfl⟩
      · have hb5 := est_less HK1.out (k2 := 999999999) (by omega) (by omega)
        have HB5 := Lib.hid hb5
        clear hb5
        go_wp2
        go_ret
        exact ⟨999999999, by first | rfl | (rw [Int.min_def, if_neg (by omega)]; rfl), by omega, by omega, HLAW.out _ (by omega) HB5.out, _, rfl⟩
    · go_wp2
      go_ret
      refine ⟨1, rfl, by omega, by omega, ?_, _, rfl⟩
      have := HLE.out
      omega
end Go.Proofs.Wk
