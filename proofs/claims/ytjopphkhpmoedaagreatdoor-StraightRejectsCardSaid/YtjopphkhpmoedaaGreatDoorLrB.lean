/- STRAIGHTNESS: the law of rejected points, walked to its end. -/
import Derived.Test.YtjopphkhpmoedaaGreatDoorLrA
namespace Go.Proofs.Wk
open Go.RowKit Mt

theorem nA_lt {x : List Nat} (h : x.Pairwise (· < ·)) {i : Nat} (hi : i + 1 < x.length) : nA x i < nA x (i + 1) := by
  rw [nA_get hi, nA_get (show i < x.length by omega)]
  exact List.pairwise_iff_getElem.1 h i (i + 1) _ _ (by omega)
set_option maxRecDepth 100000 in
set_option maxHeartbeats 4000000 in
theorem rejects_bad {v : Value} (ls : List St.Pt) (t : Int) (w : World) (hg : Good w) (S : SlX w v ls) (hln : ls.length ≤ 140737488355328) (hr : rightB ls = true) (h7 : ls.length ≤ 7) (ht : 0 ≤ t ∧ t ≤ 255) (hk : St.keeps ls t = false) :
    Calls Tryz.prog 6 #[v, .int .u8 t] w (Ret w (.bool true)) := by
  obtain ⟨h0, h1, h8, hin⟩ := rightB_iff hr
  obtain ⟨x, hx⟩ := rej_facts hk
  obtain ⟨x1, x2, x3, x4, x5, x6⟩ := St.rej_some hx
  have HRI := Lib.hid (by have := right_c ls w S hln; rwa [hr] at this)
  have HAW := Lib.hid (fun W (h : Below w.heap.size w W) => awake_c W (hg.later h))
  have ht2 : 0 ≤ t ∧ t ≤ 100000 := by omega
  have HWI := Lib.hid (fun W (h : Below w.heap.size w W) => by have := Within_c ls t W (hg.later h) (S.later h) hln; rwa [withE_ok h0 ht2, hk] at this)
  have HRJ := Lib.hid (fun W (h : Below w.heap.size w W) => by have := Reject_c ls t W (hg.later h) (S.later h) hln; rwa [rejE_ok h0 ht2 (by omega), hx, Option.getD_some] at this)
  have HCH := Lib.hid (fun W (h : Below w.heap.size w W) u (T : SlX W u x) => rChosen_c ls x W (S.later h) T x4 (by omega) (by omega))
  have HC2 := Lib.hid (fun i (hi : i < x.length) W (h : Below w.heap.size w W) u (T : SlX W u (x.eraseIdx i)) => rChosen_c ls (x.eraseIdx i) W (S.later h) T (fun m hm => x4 m ((List.eraseIdx_sublist x i).subset hm)) (by omega) (by rw [List.length_eraseIdx_of_lt hi]; omega))
  have HW2 := Lib.hid (fun W (h : Below w.heap.size w W) u (T : SlX W u (St.chosen ls x)) => by
    have := Within_c (St.chosen ls x) t W (hg.later h) T (by rw [St.chosen_len]; omega)
    rwa [withE_ok (giv_ok (by rw [St.chosen_len]; omega) (by rw [St.chosen_len]; omega) (fun p hp => hin p (St.chosen_mem x4 p hp))) ht2, x5] at this)
  have HW3 := Lib.hid (fun i (hi : i < x.length) W (h : Below w.heap.size w W) u (T : SlX W u (St.chosen ls (x.eraseIdx i))) => by
    have hl : (x.eraseIdx i).length = x.length - 1 := List.length_eraseIdx_of_lt hi
    have := Within_c (St.chosen ls (x.eraseIdx i)) t W (hg.later h) T (by rw [St.chosen_len, hl]; omega)
    rwa [withE_ok (giv_ok (by rw [St.chosen_len, hl]; omega) (by rw [St.chosen_len, hl]; omega) (fun p hp => hin p (St.chosen_mem (fun m hm => x4 m ((List.eraseIdx_sublist x i).subset hm)) p hp))) ht2, x6 i hi] at this)
  have HCL := Lib.hid (fun W u (T : SlX W u x) => cloneN_c x W T (by omega) (by omega))
  have HDE := Lib.hid (fun i (hi : i < x.length) W base u (O : OwX 3 W base u x) => deleteN_c x i (i + 1) rfl W base O hi (by omega))
  have hw : IntKind.i64.wrap t = t := wr rfl (by omega)
  have z7 : (ls.length : Int) ≤ 7 := by omega
  have HXL := Lib.hid (fun i (hi : i < x.length) => show nA x i < ls.length by rw [nA_get hi]; exact x4 _ (List.getElem_mem hi))
  have HXP := Lib.hid (fun i (hi : i + 1 < x.length) => nA_lt x3 hi)
  have z3 : (3 : Int) ≤ (x.length : Int) := by omega
  have z4 : ((x.length : Int) == 0) = false := beq_eq_false_iff_ne.2 (by omega)
  have z5 : x.length ≤ 7 := by omega
  obtain ⟨sa, cap, rfl⟩ := S.len
  generalize St.chosen ls x = ms at *
  clear S hg hin h0 hr hk hx x1 x2 x3 x4 x5 x6
  go_enter Tryz.func6, Tryz.ntmps6
  go_wp2_with fail
  ((with_reducible refine (HRI.out).mono ?_); rintro e w1 ⟨rfl, hb1⟩)
  go_wp2_with fail
  ((with_reducible refine (HWI.out _ hb1).mono ?_); rintro e w2 ⟨rfl, hb2⟩)
  have hB2 := hb1.nx hb2
  go_wp2_with fail
  ((with_reducible refine (HRJ.out _ hB2).mono ?_); rintro e w3 ⟨u, rfl, hS, hb3⟩)
  have hB3 := hB2.nx hb3
  refine hS.cases _ ?_ ?_
  · rintro a cap rfl rfl
    simp at z3
  rintro b off bcap rfl hp hR hb
  have HS := Lib.hid hS
  have HR := Lib.hid (fun (W : World) (h : Below w3.heap.size w3 W) (k : Nat) (hk : k < x.length) => (hR.later h hb).nA hk)
  clear hS hR hb hp hb1 hb2 hb3 hB2 HRI HWI HRJ
  go_wp2_with fail
  go_loopw [55] (fun si wr => ∃ i : Nat, si = .int .i64 (i : Int) ∧ i ≤ x.length ∧ wr = w3) (fun si _ => x.length - (intOf si).toNat)
  case atStart => exact ⟨0, rfl, Nat.zero_le _, rfl⟩
  case round =>
    obtain ⟨i, rfl, hi, hwr⟩ := hrel
    replace hwr := hwr.symm
    subst hwr
    by_cases hlt : i < x.length
    · have k0 := HR.out _ (Below.refl _ _) i hlt
      have y1 := HXL.out i hlt
      cases i with
      | zero =>
        simp only [Nat.add_zero] at k0
        generalize nA x 0 = k at *
        have q1 : (k : Int) < (ls.length : Int) := by omega
        have q2 : ¬ (k : Int) < 0 := by omega
        go_wp2
        go_roundw
        case rel => exact ⟨1, by go_num, by omega, trivial⟩
        case measure => simp [intOf]; omega
      | succ m =>
        have k1 := HR.out _ (Below.refl _ _) m (by omega)
        have y2 := HXP.out m hlt
        generalize nA x (m + 1) = k at *
        generalize nA x m = p at *
        have q1 : (k : Int) < (ls.length : Int) := by omega
        have q2 : ¬ (k : Int) < 0 := by omega
        have q3 : ¬ (k : Int) ≤ (p : Int) := by omega
        have q4 : (0 : Int) < (m : Int) + 1 := by omega
        have q5 : (m : Int) + 1 < (x.length : Int) := by omega
        have q6 : (m : Int) < (x.length : Int) := by omega
        go_wp2
        go_roundw
        case rel => exact ⟨m + 1 + 1, by go_num, by omega, trivial⟩
        case measure => simp [intOf]; omega
    · obtain rfl : i = x.length := by omega
      go_wp2_with fail
      ((with_reducible refine (HCH.out _ hB3 _ HS.out).mono ?_); rintro e w4 ⟨cv, rfl, hC4, hb4⟩)
      have hB4 := hB3.nx hb4
      go_wp2_with fail
      ((with_reducible refine (HW2.out _ hB4 _ hC4).mono ?_); rintro e w5 ⟨rfl, hb5⟩)
      have hB5 := hb4.nx hb5
      clear hC4 hb4 hb5 hB4
      go_wp2_with fail
      go_loopw [103] (fun si wr => ∃ i : Nat, si = .int .i64 (i : Int) ∧ i ≤ x.length ∧ Hid (Below w3.heap.size w3 wr)) (fun si _ => x.length - (intOf si).toNat)
      case atStart => exact ⟨0, rfl, Nat.zero_le _, hB5⟩
      case round =>
        obtain ⟨i, rfl, hi, hB⟩ := hrel
        by_cases hlt : i < x.length
        · have hwi : IntKind.i64.wrap ((i : Int) + 1) = (i : Int) + 1 := Go.Proofs.Wk.wr rfl (by omega)
          go_wp2_with fail
          ((with_reducible refine (HCL.out _ _ (HS.out.later hB.out)).mono ?_); rintro e w6 ⟨v6, rfl, hO6, hb6⟩)
          have hB6 := hB.out.nx hb6
          go_wp2_with fail
          ((refine (HDE.out i hlt _ _ _ hO6).mono ?_); rintro e w7 ⟨v7, rfl, hS7, hb7⟩)
          have hB7 := hB6.trans (hb7.mono hB.out.size)
          clear hO6 hb6 hb7 hB6
          go_wp2_with fail
          ((with_reducible refine (HC2.out i hlt _ (hB3.nx hB7) _ hS7).mono ?_); rintro e w8 ⟨v8, rfl, hS8, hb8⟩)
          have hB8 := hB7.nx hb8
          clear hS7 hb8 hB7
          go_wp2_with fail
          ((with_reducible refine (HW3.out i hlt _ (hB3.nx hB8) _ hS8).mono ?_); rintro e w9 ⟨rfl, hb9⟩)
          have HB9 := Lib.hid (hB8.nx hb9)
          clear hS8 hb9 hB8
          go_wp2
          go_roundw
          case rel => exact ⟨i + 1, by go_num, by omega, HB9.out⟩
          case measure => simp [intOf]; omega
        · obtain rfl : i = x.length := by omega
          have hB9 := hB3.nx hB.out
          go_wp2_with fail
          ((with_reducible refine (HAW.out _ hB9).mono ?_); rintro e w9 ⟨rfl, hb9⟩)
          have hB10 := hB9.nx hb9
          go_wp2
          go_ret
          exact ⟨rfl, hB10⟩
theorem rejects_c {v : Value} (ls : List St.Pt) (t : Int) (w : World) (hg : Good w) (S : SlX w v ls) (hln : ls.length ≤ 140737488355328) (ht : 0 ≤ t ∧ t ≤ 255) : Calls Tryz.prog 6 #[v, .int .u8 t] w (Ret w (.bool true)) := by
  by_cases h : rightB ls = true ∧ ls.length ≤ 7
  · cases hk : St.keeps ls t with
    | true => exact rejects_keep ls t w hg S hln h.1 h.2 ht hk
    | false => exact rejects_bad ls t w hg S hln h.1 h.2 ht hk
  · exact rejects_no ls t w hg S hln h
end Go.Proofs.Wk
