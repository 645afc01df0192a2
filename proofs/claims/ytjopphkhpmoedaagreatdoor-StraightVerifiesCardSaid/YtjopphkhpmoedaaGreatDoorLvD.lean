/- STRAIGHTNESS: the reference's Verify, and the law of it, walked. -/
import Derived.Test.YtjopphkhpmoedaaGreatDoorLvC
import Derived.Test.YtjopphkhpmoedaaGreatDoorHE
namespace Go.Proofs.Wk
open Go.RowKit Mt

set_option maxRecDepth 100000 in
set_option maxHeartbeats 4000000 in
theorem rVerify_c {v : Value} (ls : List St.Pt) (sq : Txt) (i j f : Int) (w : World) (S : SlX w v ls) (hln : ls.length ≤ 140737488355328) (hsq : sq.length ≤ 140737488355328) :
    Calls Tryz.prog 39 #[v, .string ⟨sq.toArray⟩, .agg #[.int .i64 i, .int .i64 j], .int .i64 f] w (Ret w (bint (verE ls sq i j f))) := by
  have HGV := Lib.hid (fun W (h : Below w.heap.size w W) => rGiven_c ls W (S.later h) hln)
  have HQC := Lib.hid (fun W (_ : Below w.heap.size w W) => rqCheck_c sq W hsq)
  have hn := heap_alloc_new w (.cells #[.int .i64 i, .int .i64 j] 47)
  have hB := below_al w (.cells #[.int .i64 i, .int .i64 j] 47)
  by_cases h0 : St.givP ls = 0
  rotate_left
  · rw [verE_bad h0]
    generalize St.givP ls = E at *
    have z : (E != 0) = true := bne_iff_ne.2 h0
    obtain ⟨sa, cap, rfl⟩ := S.len
    clear h0 S
    go_enter Tryz.func39, Tryz.ntmps39
    go_wp2_with fail
    generalize w.alloc (.cells #[.int .i64 i, .int .i64 j] 47) = W at *
    ((with_reducible refine (HGV.out _ hB).mono ?_); rintro e w1 ⟨rfl, hb1⟩)
    have hB1 := hB.nx hb1
    clear hn
    go_wp2
    go_ret2
    exact ⟨rfl, hB1⟩
  by_cases hc : rchk sq = 0
  rotate_left
  · rw [verE_chk h0 hc]
    rw [h0] at HGV
    generalize rchk sq = E at *
    have z : (E != 0) = true := bne_iff_ne.2 hc
    obtain ⟨sa, cap, rfl⟩ := S.len
    clear h0 S hc
    go_enter Tryz.func39, Tryz.ntmps39
    go_wp2_with fail
    generalize w.alloc (.cells #[.int .i64 i, .int .i64 j] 47) = W at *
    ((with_reducible refine (HGV.out _ hB).mono ?_); rintro e w1 ⟨rfl, hb1⟩)
    have hB1 := hB.nx hb1
    clear hn
    go_wp2_with fail
    ((with_reducible refine (HQC.out _ hB1).mono ?_); rintro e w2 ⟨rfl, hb2⟩)
    have hB2 := hB1.nx hb2
    go_wp2
    go_ret2
    exact ⟨rfl, hB2⟩
  rw [h0] at HGV
  rw [hc] at HQC
  obtain ⟨i1, i2, i3⟩ := St.givP_in h0
  have HOUT := Lib.hid (fun h => verE_out (i := i) (j := j) (f := f) h0 hc h)
  have HOK := Lib.hid (fun h => verE_ok (i := i) (j := j) (f := f) h0 hc h)
  have HSL := Lib.hid S
  have HIN := Lib.hid i3
  have HSM := Lib.hid (fun W (h : Below w.heap.size w W) => rsame_c ls W (S.later h) i1 hln)
  refine S.cases _ ?_ ?_
  · rintro a cap rfl rfl
    simp at i1
  rintro b off cap rfl hp hR hb
  have HR := Lib.hid (fun (W : World) (h : Below w.heap.size w W) (k : Nat) (hk : k < ls.length) => (hR.later h hb).ptAt hk)
  generalize verE ls sq i j f = Y at *
  obtain ⟨Y1, Y2⟩ := Y
  clear h0 hc S i3 hR hp hb
  go_enter Tryz.func39, Tryz.ntmps39
  go_wp2_with fail
  generalize w.alloc (.cells #[.int .i64 i, .int .i64 j] 47) = W at *
  ((with_reducible refine (HGV.out _ hB).mono ?_); rintro e w1 ⟨rfl, hb1⟩)
  have hB1 := hB.nx hb1
  have hn1 := keepR hn hb1
  go_wp2_with fail
  ((with_reducible refine (HQC.out _ hB1).mono ?_); rintro e w2 ⟨rfl, hb2⟩)
  have hB2 := hB1.nx hb2
  have hn2 := keepR hn1 hb2
  obtain ⟨c0, c1⟩ := c2row hn2
  clear hn hn1 hb1 hb2 hB hB1 HGV HQC
  go_wp2_with fail
  have HI3 := Lib.hid (ints3 w2 i j f 3)
  have hn3 := keepR hn2 (below_al w2 (.cells #[.int .i64 i, .int .i64 j, .int .i64 f] 3))
  have hB3 := hB2.nx (below_al w2 (.cells #[.int .i64 i, .int .i64 j, .int .i64 f] 3))
  generalize w2.alloc (.cells #[.int .i64 i, .int .i64 j, .int .i64 f] 3) = W3 at *
  generalize w2.heap.size = g3 at *
  clear hn2 hB2 c0 c1
  go_loopw [34] (fun sk wr => ∃ k : Nat, sk = .int .i64 (k : Int) ∧ k ≤ 3 ∧ wr = W3 ∧ Hid (∀ (m : Nat) (hm : m < 3), m < k → idx ls [i, j, f][m])) (fun sk _ => 3 - (intOf sk).toNat)
  case atStart => exact ⟨0, rfl, by omega, rfl, fun m _ h => absurd h (Nat.not_lt_zero m)⟩
  case round =>
    obtain ⟨k, rfl, hk, rfl, hid⟩ := hrel
    by_cases hlt : k < 3
    · have k0 := HI3.out k hlt
      have hany := fun h => HOUT.out (idx_any (hk := hlt) h)
      have hnext := fun h => idx_next hlt hid.out h
      generalize [i, j, f][k] = x at *
      rcases (by omega : x < 0 ∨ (0 ≤ x ∧ x < (ls.length : Int)) ∨ (0 ≤ x ∧ (ls.length : Int) ≤ x)) with h | ⟨h, h'⟩ | ⟨h, h'⟩
      · obtain ⟨rfl, rfl⟩ := Prod.mk.inj (hany (fun q => by have := q.1; omega))
        clear hany hnext HOUT HOK
        go_wp2
        go_ret2
        exact ⟨rfl, hB3⟩
      · have HNX := Lib.hid (hnext ⟨h, h'⟩)
        clear hany hnext
        go_wp2
        go_roundw
        case rel => exact ⟨k + 1, by go_num, by omega, trivial, HNX.out⟩
        case measure => simp [intOf]; omega
      · obtain ⟨rfl, rfl⟩ := Prod.mk.inj (hany (fun q => by have := q.2; omega))
        clear hany hnext HOUT HOK
        go_wp2
        go_ret2
        exact ⟨rfl, hB3⟩
    · obtain rfl : k = 3 := by omega
      have hok := idx_all (fun m hm => hid.out m hm hm)
      have hv := HOK.out hok
      obtain ⟨⟨p1, p2⟩, ⟨p3, p4⟩, p5, p6⟩ := hok
      obtain ⟨ni, rfl⟩ := Int.eq_ofNat_of_zero_le p1
      obtain ⟨nj, rfl⟩ := Int.eq_ofNat_of_zero_le p3
      obtain ⟨nf, rfl⟩ := Int.eq_ofNat_of_zero_le p5
      simp only [Int.toNat_natCast] at hv
      have hi : ni < ls.length := by omega
      have hj : nj < ls.length := by omega
      have hf : nf < ls.length := by omega
      rw [ver_pv] at hv
      have hle := fun W (h : Below w.heap.size w W) => rLeast_c ls W (HSL.out.later h) HIN.out i1 i2
      rw [bsQ_wid] at hle
      have HLE := Lib.hid hle
      have HPV := Lib.hid (fun W (h : Below w.heap.size w W) => proves_c ls sq ni nj nf W (HSL.out.later h) hln i1 i2 HIN.out hi hj hf)
      generalize pv ls sq ni nj nf = q at *
      generalize rtoa (St.wid ls) = T1 at *
      generalize bsI (St.least ls) = xi at *
      generalize bsJ (St.least ls) = xj at *
      generalize bsF (St.least ls) = xf at *
      clear HOUT HOK hid HI3 p1 p2 p3 p4 p5 p6 hle HSM
      go_wp2_with fail
      ((with_reducible refine (HLE.out _ hB3).mono ?_); rintro e w4 ⟨rfl, hb4⟩)
      have hA5 := below_al w4 (.cells #[.int .i64 (xi : Int), .int .i64 (xj : Int)] 47)
      have hB5 := (hB3.nx hb4).nx hA5
      obtain ⟨c0, c1⟩ := c2row (keepR (keepR hn3 hb4) hA5)
      clear hn3 hb4 hB3 hA5
      by_cases h1 : T1 = sq
      · subst h1
        rw [decide_eq_true rfl, Bool.true_and] at hv
        obtain ⟨rfl, rfl⟩ := Prod.mk.inj hv
        clear hv
        go_wp2_with fail
        generalize w4.alloc (.cells #[.int .i64 (xi : Int), .int .i64 (xj : Int)] 47) = w5 at *
        ((with_reducible refine (HPV.out _ hB5).mono ?_); rintro e w6 ⟨rfl, hb6⟩)
        have hB6 := hB5.nx hb6
        go_wp2
        go_ret2
        exact ⟨rfl, hB6⟩
      · have y1 : (T1 == sq) = false := beq_eq_false_iff_ne.2 h1
        rw [decide_eq_false h1, Bool.false_and] at hv
        obtain ⟨rfl, rfl⟩ := Prod.mk.inj hv
        clear hv
        go_wp2
        go_ret2
        exact ⟨rfl, hB5⟩
set_option maxRecDepth 100000 in
set_option maxHeartbeats 4000000 in
theorem verifies_c {v : Value} (ls : List St.Pt) (sq : Txt) (i j f : Int) (w : World) (hg : Good w) (S : SlX w v ls) (hln : ls.length ≤ 140737488355328) (hsq : sq.length ≤ 140737488355328) :
    Calls Tryz.prog 8 #[v, .agg #[.string ⟨sq.toArray⟩, .int .i64 i, .int .i64 j, .int .i64 f]] w (Ret w (.bool true)) := by
  have HFW := Lib.hid (fun W (h : Below w.heap.size w W) => rFewP_c ls W (S.later h) hln)
  have HQF := Lib.hid (fun W => Few_q sq W hsq)
  have HAW := Lib.hid (fun W (h : Below w.heap.size w W) => awake_c W (hg.later h))
  have HV1 := Lib.hid (fun W (h : Below w.heap.size w W) => Verify_c ls sq i j f W (hg.later h) (S.later h) hln hsq)
  have HV2 := Lib.hid (fun W (h : Below w.heap.size w W) => rVerify_c ls sq i j f W (S.later h) hln hsq)
  have hn := heap_alloc_new w (.cells #[.string ⟨sq.toArray⟩, .int .i64 i, .int .i64 j, .int .i64 f] 70)
  have hB := below_al w (.cells #[.string ⟨sq.toArray⟩, .int .i64 i, .int .i64 j, .int .i64 f] 70)
  obtain ⟨sa, cap, rfl⟩ := S.len
  generalize fewP ls.length = q at *
  generalize verE ls sq i j f = y at *
  obtain ⟨Y, E⟩ := y
  clear S hg hln
  go_enter Tryz.func8, Tryz.ntmps8
  go_wp2_with fail
  generalize w.alloc (.cells #[.string ⟨sq.toArray⟩, .int .i64 i, .int .i64 j, .int .i64 f] 70) = W at *
  ((with_reducible refine (HFW.out _ hB).mono ?_); rintro e w1 ⟨rfl, rfl⟩)
  obtain ⟨c0, c1, c2, c3⟩ := c4row hn
  cases q with
  | false =>
    clear hn
    go_wp2_with fail
    ((with_reducible refine (HAW.out _ hB).mono ?_); rintro e w2 ⟨rfl, hb2⟩)
    have hB2 := hB.nx hb2
    go_wp2
    go_ret
    exact ⟨rfl, hB2⟩
  | true =>
    go_wp2_with fail
    ((with_reducible refine (HQF.out _).mono ?_); rintro e w2 ⟨fq, rfl, hb2⟩)
    have hB2 := hB.nx hb2
    have hn2 := keepR hn hb2
    clear hn hB hb2 c0 c1 c2 c3
    cases fq with
    | false =>
      clear hn2
      go_wp2_with fail
      ((with_reducible refine (HAW.out _ hB2).mono ?_); rintro e w3 ⟨rfl, hb3⟩)
      have hB3 := hB2.nx hb3
      go_wp2
      go_ret
      exact ⟨rfl, hB3⟩
    | true =>
      obtain ⟨c0, c1, c2, c3⟩ := c4row hn2
      go_wp2_with fail
      ((with_reducible refine (HV1.out _ hB2).mono ?_); rintro e w3 ⟨rfl, hb3⟩)
      have hB3 := hB2.nx hb3
      have hn3 := keepR hn2 hb3
      clear hn2 hB2 hb3 c0 c1 c2 c3
      obtain ⟨c0, c1, c2, c3⟩ := c4row hn3
      go_wp2_with fail
      ((with_reducible refine (HV2.out _ hB3).mono ?_); rintro e w4 ⟨rfl, hb4⟩)
      have hB4 := hB3.nx hb4
      clear hn3 hB3 hb4 c0 c1 c2 c3
      go_wp2_with fail
      ((with_reducible refine (HAW.out _ hB4).mono ?_); rintro e w5 ⟨rfl, hb5⟩)
      have hB5 := hB4.nx hb5
      go_wp2
      go_ret
      exact ⟨ret_bool (by simp), hB5⟩
end Go.Proofs.Wk
