/- THE PROGRAM's MAGNITUDES: written as a text. -/
import Derived.Test.YtjljappilpkelaaGreatDoorWhG
import Derived.Test.YtjljappilpkelaaGreatDoorMathX
import Derived.Test.YtjljappilpkelaaGreatDoorBuild
namespace Go.Proofs.Wk
open Go.RowKit Mt

theorem Itoa_nat (n : Nat) (w : World) (hg : Good w) (h1 : n ≤ 9223372036854775807) :
    Calls Tryz.prog 63 #[.int .i64 (n : Int)] w (Ret w (.string ⟨(Lib.decDigits n).toArray⟩)) := by
  have := Itoa_c n w hg (by omega) (by omega)
  rwa [itoa_nat] at this
theorem Bld.fresh (w : World) : Bld w.heap.size w.heap.size [] (w.alloc (.cells #[.pointer none, .slice none 0 0] 101)) := Lib.IsBuilderF.of (Lib.fresh_isBuilder 101 5 w)
theorem Bld.lt {B b : Nat} {l : List UInt8} {w : World} (h : Bld B b l w) : b < w.heap.size := by
  rcases h with h | h <;> exact h.lt
theorem Bld.later {B b : Nat} {l : List UInt8} {w w' : World} (h : Bld B b l w) (hb : Below w.heap.size w w') : Bld B b l w' := by
  have hg : w.grownBy w' none := ⟨hb.os, hb.tape, hb.output, hb.size, fun k hk _ => hb.block k hk⟩
  have one : ∀ p, Lib.BuilderAtF 101 5 B b p (Lib.byteCells l) w → Lib.BuilderAtF 101 5 B b p (Lib.byteCells l) w' := by
    rintro p ⟨h1, v, h2, h3, h4⟩
    exact ⟨h1, v, by rw [hb.block b (Array.getElem?_eq_some_iff.1 h2).1]; exact h2, h3.kept hg (by cases hv : v.ownBlock <;> simp), h4⟩
  exact h.elim (fun x => .inl (one _ x)) (fun x => .inr (one _ x))
theorem Bld.drew {B b : Nat} {l : List UInt8} {w : World} (h : Bld B b l w) : Bld B b l w.drew := h.later ((Below.refl _ _).drew)
theorem Good.drew {w : World} (h : Good w) : Good w.drew := h.later ((Below.refl _ _).drew)

set_option maxRecDepth 100000 in
set_option maxHeartbeats 4000000 in
theorem text_zero (b : Nat) (s : Bool) (w : World) (h : CW w b s 0) : Calls Tryz.prog 51 #[.pointer (some ⟨b, 0, none⟩)] w (Pur w (.string ⟨#[48]⟩)) := by
  have h1 := h.2.c1
  rw [wlen_zero] at h1
  go_enter Tryz.func51, Tryz.ntmps51
  go_wp2
  go_ret
  exact ⟨rfl, rfl⟩

set_option maxRecDepth 100000 in
set_option maxHeartbeats 4000000 in
theorem text_pos (b : Nat) (s : Bool) (X : Nat) (w : World) (h : CW w b s X) (h0 : X ≠ 0) (hg : Good w) :
    Calls Tryz.prog 51 #[.pointer (some ⟨b, 0, none⟩)] w (Ret w (.string ⟨((if s then [45] else []) ++ Lib.decDigits X).toArray⟩)) := by
  have hn0 : wlen X ≠ 0 := fun e => h0 (wlen_eq_zero.1 e)
  have hlt := h.lt
  have hl := h.wl
  have htop := tdig_top h.1 h0
  have hall := tdig_all h.1
  have hwt := wat_bd X (wlen X - 1)
  obtain ⟨n, hn⟩ : ∃ n, wlen X = n + 1 := ⟨wlen X - 1, by omega⟩
  rw [show wlen X - 1 = n by omega] at htop hwt
  have hlen0 := tdig_len h.1 (k := n) (by omega)
  have HC := Lib.hid h; have H0 := Lib.hid h0; have HG := Lib.hid hg; have HTOP := Lib.hid htop; have HALL := Lib.hid hall; have HN := Lib.hid hn
  have hn232 : n < 232 := by omega
  clear h h0 hg htop hall hn0 hl
  have hB0 : Below w.heap.size w (w.alloc (.cells #[.pointer none, .slice none 0 0] 101)) := (Below.refl _ _).alloc (Nat.le_refl _) _
  have h00 := HC.out.2.c0
  have h11 := HC.out.2.c1
  rw [hn] at h11
  clear hn
  have hiw : n < (wds X).length := by rw [wds_length]; exact hn232
  have hcw := HC.out.2.cw hiw
  rw [wat_get hiw] at hcw
  obtain ⟨y, hy⟩ : ∃ y : Nat, wat X n = (y : Int) := ⟨(wat X n).toNat, by omega⟩
  rw [hy] at hcw hwt HTOP
  have hyb : y < 1000000000 := by omega
  have HY := Lib.hid hy
  clear hy hwt
  obtain ⟨l0, hl0, hl0l⟩ : ∃ l0 : Txt, (if s then [45] else []) = l0 ∧ l0.length ≤ 1 := ⟨_, rfl, by cases s <;> simp⟩
  rw [hl0]
  go_enter Tryz.func51, Tryz.ntmps51
  go_upto_if 14 with fail
  go_cut [3] (fun s3 wx => s3 = .pointer (some ⟨w.heap.size, 0, none⟩) ∧ Bld w.heap.size w.heap.size l0 wx ∧ Below w.heap.size w wx)
  case first =>
    cases s with
    | true =>
      subst hl0
      go_wp2_with fail
      refine (WriteByte_c w.heap.size w.heap.size [] 45 _ (Bld.fresh w) (by simp) hB0.size).mono ?_
      rintro e w1 ⟨rfl, hb1, hbl1⟩
      go_wp2_with fail
      go_meet
      exact ⟨rfl, hb1, hB0.trans hbl1⟩
    | false =>
      subst hl0
      go_wp2_with fail
      go_meet
      exact ⟨rfl, Bld.fresh w, hB0⟩
  case rest =>
    obtain ⟨rfl, hbx, hBx⟩ := hcut
    have HL0 := Lib.hid hl0
    clear hl0 hB0
    have hCx := HC.out.later hBx hlt
    have h1x := hCx.2.c1
    have hcwx := hCx.2.cw hiw
    rw [wat_get hiw, HY.out] at hcwx
    have hnw := HN.out
    rw [hnw] at h1x
    have HGX := Lib.hid (HG.out.later hBx)
    have HCX := Lib.hid hCx
    have hn3 : (n : Int) < 232 := by omega
    have hyl : (Lib.decDigits y).length ≤ 9 := dec_nine hyb
    clear hCx hnw h00 h11 hcw
    go_upto_region 6 with fail
    have hsub : (n : Int) + 1 - 1 = (n : Int) := by omega
    have hwn : IntKind.i64.wrap (n : Int) = (n : Int) := IntWalk.i64_in _ (by omega)
    have hwn1 : IntKind.i64.wrap ((n : Int) + 1) = (n : Int) + 1 := IntWalk.i64_in _ (by omega)
    go_cut [3] (fun s3 wz => s3 = .pointer (some ⟨w.heap.size, 0, none⟩) ∧ Bld w.heap.size w.heap.size (l0 ++ Lib.decDigits y) wz ∧ Below w.heap.size w wz)
    case first =>
      go_region_with (first | (go_at_call 63; (with_reducible refine (Itoa_nat y _ HGX.out.drew (by omega)).mono ?_); rintro e w1 ⟨rfl, hb1⟩) | (go_at_call 79;  (with_reducible refine (WriteString_c w.heap.size w.heap.size l0 (Lib.decDigits y) _ (hbx.drew.later hb1) (by omega) (by omega) (Nat.le_trans hBx.drew.size hb1.size)).mono ?_); rintro e w2 ⟨rfl, hb2, hbl2⟩))
      all_goals (go_wp2_with fail; go_meet)
      all_goals exact ⟨rfl, hb2, (hBx.drew.trans (hb1.mono hBx.drew.size)).trans hbl2⟩
    case rest =>
      obtain ⟨rfl, hbz, hBz⟩ := hcut
      have hCz := HC.out.later hBz hlt
      have h1z := hCz.2.c1
      rw [HN.out] at h1z
      clear hCz
      have hn2 : IntKind.i64.wrap ((n : Int) + 1 - 2) = (n : Int) + 1 - 2 := IntWalk.i64_in _ (by omega)
      go_wp2_with fail
      go_loopw [4] (fun s4 wr => ∃ k : Nat, s4 = .int .i64 ((k : Int) - 1) ∧ k ≤ n ∧ Bld w.heap.size w.heap.size (l0 ++ tdig X k) wr ∧ Below w.heap.size w wr) (fun i _ => (intOf i + 1).toNat)
      case atStart =>
        exact ⟨n, by go_num, Nat.le_refl _, by rw [HTOP.out]; exact hbz, hBz⟩
      case round =>
        obtain ⟨k, rfl, hk, hb, hB⟩ := hrel
        by_cases h0 : 1 ≤ k
        · obtain ⟨i, rfl⟩ : ∃ i, k = i + 1 := ⟨k - 1, by omega⟩
          rw [show (((i + 1 : Nat) : Int) - 1) = (i : Int) by omega]
          have hiw : i < (wds X).length := by rw [wds_length]; omega
          have hCr := HC.out.later hB hlt
          have hcr := hCr.2.cw hiw
          rw [wat_get hiw] at hcr
          have hst := tdig_step HCX.out.1 H0.out (k := i) (by have := HN.out; omega)
          have hwb := wat_bd X i
          have htl := tdig_len HCX.out.1 (k := i + 1) (by omega)
          obtain ⟨d, hd⟩ : ∃ d : Nat, wat X i = (d : Int) := ⟨(wat X i).toNat, by omega⟩
          rw [hd] at hcr hst hwb
          rw [Int.toNat_natCast] at hst
          have hdb : d < 1000000000 := by omega
          have hdl : (Lib.decDigits d).length ≤ 9 := dec_nine hdb
          have hpl := pad9_length hdb
          have hzd := zeros_drop (Lib.decDigits d).length
          have hpd : List.replicate (9 - (Lib.decDigits d).length) 48 ++ Lib.decDigits d = pad9 d := rfl
          have HST := Lib.hid hst; have HPL := Lib.hid hpl
          have HGR := Lib.hid (HG.out.later hB)
          have hi3 : (i : Int) < 232 := by omega
          clear hCr hst hwb hpl hd
          go_upto_region 11 with fail
          go_wp2_with fail
          refine (Itoa_nat d _ HGR.out (by omega)).mono ?_
          rintro e w1 ⟨rfl, hb1⟩
          go_wp2_with fail
          have hcat : ((⟨Array.replicate (9 - (Lib.decDigits d).length) 48⟩ : ByteArray) ++ (⟨(Lib.decDigits d).toArray⟩ : ByteArray)) = ⟨(pad9 d).toArray⟩ := by
            rw [← hpd, ← append_mk, List.toArray_replicate]
          rw [hcat]
          refine (WriteString_c w.heap.size w.heap.size (l0 ++ tdig X (i + 1)) (pad9 d) _ (hb.later hb1) (by rw [List.length_append]; omega) (by rw [HPL.out]; omega) (Nat.le_trans hB.size hb1.size)).mono ?_
          rintro e w2 ⟨rfl, hb2, hbl2⟩
          rw [List.append_assoc, ← HST.out] at hb2
          go_wp2
          go_roundw
          case rel => exact ⟨i, by go_num, by omega, hb2, (hB.trans (hb1.mono hB.size)).trans hbl2⟩
          case measure => simp [intOf]
        · obtain rfl : k = 0 := by omega
          rw [HALL.out] at hb
          go_wp2_with fail
          refine (Tryz.Builder_String_any_k w.heap.size w.heap.size _ _ hb hB.size).mono ?_
          rintro e w1 ⟨rfl, hb1, hbl1, -⟩
          go_wp2
          go_ret
          exact ⟨rfl, hB.trans hbl1⟩
end Go.Proofs.Wk
