/- POSITION, IN THE REFERENCE: squared deviations, the farthest point, zones. -/
import Derived.Test.YtphbikfkeinmnaaGreatDoorPH
import Derived.Test.YtphbikfkeinmnaaGreatDoorPG
namespace Go.Proofs.Wk
open Go.RowKit Mt Po

set_option maxRecDepth 100000 in
set_option maxHeartbeats 4000000 in
theorem rFar_c {v : Value} (l : List Rat) (disc : Bool) (w : World) (hsh : ShL l) (S : SlS w v (l.map rtoa)) (h0 : 0 < l.length) : Calls Tryz.prog 34 #[v, .bool disc] w (Ret w (.string ⟨(rtoa (farQ l disc)).toArray⟩)) := by
  rcases S with ⟨a, cp, rfl, he⟩ | ⟨b, off, cap, rfl, hR, hl⟩
  · exfalso
    have := congrArg List.length he
    simp at this
    subst this
    exact absurd h0 (by simp)
  have HR := Lib.hid (fun (W : World) (h : Below w.heap.size w W) i (hi : i < l.length) => show W.cell? ⟨b, off + i, none⟩ = some (.string ⟨(rtoa (l.getD i 0)).toArray⟩) by
    have := (hR.later h hl) i (by simpa using hi)
    rw [this, List.getElem_map, List.getD_eq_getElem?_getD, List.getElem?_eq_getElem hi]; rfl)
  have HM := Lib.hid (fun i W => Times_q (l.getD i 0) (l.getD i 0) W ((hsh.get i).s19 (by omega)) ((hsh.get i).s19 (by omega)))
  have HA := Lib.hid (fun i (hi : i < 3) W => by
    have := Plus_q (sumQ l i) (l.getD i 0 * l.getD i 0) W ((sz_sum hsh i).s19 (by omega)) ((hsh.sq i).s19 (by omega))
    rwa [show sumQ l i + l.getD i 0 * l.getD i 0 = sumQ l (i + 1) from rfl] at this)
  have HC := Lib.hid (fun i W => Order_q (l.getD i 0 * l.getD i 0) (mostQ l i) W ((hsh.sq i).s19 (by omega)) ((sz_most hsh i).s19 (by omega)))
  have HY := Lib.hid (fun i (h : 0 < cmpQ (l.getD i 0 * l.getD i 0) (mostQ l i)) => show mostQ l (i + 1) = l.getD i 0 * l.getD i 0 from if_pos (cmpQ_pos.1 h))
  have HNO := Lib.hid (fun i (h : cmpQ (l.getD i 0 * l.getD i 0) (mostQ l i) ≤ 0) => show mostQ l (i + 1) = mostQ l i from if_neg (fun q => Int.not_lt.2 h (cmpQ_pos.2 q)))
  have HS0 := Lib.hid (show rtoa (sumQ l 0) = [48] from rtoa_zero)
  have HT0 := Lib.hid (show rtoa (mostQ l 0) = [48] from rtoa_zero)
  have HE := Lib.hid (show farQ l disc = if disc then sumQ l l.length else mostQ l l.length from rfl)
  have hn3 := hsh.1
  simp only [List.length_map]
  generalize farQ l disc = FQ at *
  obtain ⟨n, hn⟩ : ∃ n, l.length = n := ⟨_, rfl⟩
  rw [hn] at HR HE hn3 h0 ⊢
  clear hn hsh hR hl
  go_enter Tryz.func34, Tryz.ntmps34
  go_wp2_with fail
  go_loopw [5, 6, 7] (fun ss sm si wr => ∃ i : Nat, si = .int .i64 (i : Int) ∧ i ≤ n ∧ ss = .string ⟨(rtoa (sumQ l i)).toArray⟩ ∧ sm = .string ⟨(rtoa (mostQ l i)).toArray⟩ ∧ Hid (Below w.heap.size w wr)) (fun _ _ si _ => n - (intOf si).toNat)
  case atStart => exact ⟨0, rfl, Nat.zero_le _, by rw [HS0.out], by rw [HT0.out], Below.refl _ _⟩
  case round =>
    obtain ⟨i, rfl, hi, rfl, rfl, hB⟩ := hrel
    by_cases hlt : i < n
    · have K1 := Lib.hid (fun W h => HR.out W h i hlt)
      have HM1 := Lib.hid (fun W => HM.out i W)
      have HA1 := Lib.hid (fun W => HA.out i (by omega) W)
      have HC1 := Lib.hid (fun W => HC.out i W)
      have HY1 := Lib.hid (fun h => HY.out i h)
      have HN1 := Lib.hid (fun h => HNO.out i h)
      obtain ⟨tn, htn⟩ : ∃ t, rtoa (sumQ l (i + 1)) = t := ⟨_, rfl⟩
      rw [htn] at HA1
      have HTN := Lib.hid htn
      clear htn
      generalize cmpQ (l.getD i 0 * l.getD i 0) (mostQ l i) = cq at *
      obtain ⟨tq, htq⟩ : ∃ t, rtoa (l.getD i 0 * l.getD i 0) = t := ⟨_, rfl⟩
      obtain ⟨tm, htm⟩ : ∃ t, rtoa (mostQ l i) = t := ⟨_, rfl⟩
      rw [htq] at HM1 HA1 HC1
      rw [htm] at HC1 ⊢
      have HTQ := Lib.hid htq
      have HTM := Lib.hid htm
      clear htq htm
      generalize rtoa (l.getD i 0) = tx at *
      generalize rtoa (sumQ l i) = ts at *
      have j0 : (i : Int) < (n : Int) := by omega
      have j1 : (0 : Int) ≤ (i : Int) := by omega
      go_upto_region 5 with fail
      go_region_held3 (fun w' => w'.cell? ⟨b, off + i, none⟩ = some (.string ⟨tx.toArray⟩) ∧ Below w.heap.size w w')
        (first | with_reducible exact ⟨K1.out _ B2, B2⟩ | with_reducible exact ⟨K1.out _ hB.out, hB.out⟩ | with_reducible exact ⟨K1.out _ hB.out.drew, hB.out.drew⟩)
        (first
          | (go_at_call 70; (with_reducible refine (HM1.out _).mono ?_); rintro e w2 ⟨rfl, hb2⟩; (first | (with_reducible have B2 := hB.out.drew.nx hb2) | (with_reducible have B2 := hB.out.nx hb2)))
          | fail)
      all_goals
        have HB2 := Lib.hid B2
        clear hb2 hB B2
        go_wp2_with fail
        ((with_reducible refine (HA1.out _).mono ?_); rintro e w3 ⟨rfl, hb3⟩)
        have HB3 := Lib.hid (HB2.out.nx hb3)
        clear hb3 HB2
        go_wp2_with fail
        ((with_reducible refine (HC1.out _).mono ?_); rintro e w4 ⟨rfl, hb4⟩)
        have HB4 := Lib.hid (HB3.out.nx hb4)
        clear hb4 HB3
        by_cases hc : 0 < cq
        · have HQ := Lib.hid (HY1.out hc)
          clear HY1 HN1
          go_wp2
          go_roundw
          case rel => exact ⟨i + 1, by go_num, by omega, by rw [HTN.out], by rw [HQ.out, HTQ.out], HB4.out⟩
          case measure => simp [intOf]; omega
        · have HQ := Lib.hid (HN1.out (Int.not_lt.1 hc))
          clear HY1 HN1
          go_wp2
          go_roundw
          case rel => exact ⟨i + 1, by go_num, by omega, by rw [HTN.out], by rw [HQ.out, HTM.out], HB4.out⟩
          case measure => simp [intOf]; omega
    · obtain rfl : i = n := by omega
      have hw := hB.out
      clear hB
      cases disc with
      | false =>
        obtain rfl : FQ = mostQ l i := by rw [HE.out]; rfl
        clear HE
        generalize rtoa (mostQ l i) = tm at *
        generalize rtoa (sumQ l i) = ts at *
        go_wp2
        go_ret
        exact ⟨rfl, hw⟩
      | true =>
        obtain rfl : FQ = sumQ l i := by rw [HE.out]; rfl
        clear HE
        generalize rtoa (mostQ l i) = tm at *
        generalize rtoa (sumQ l i) = ts at *
        go_wp2
        go_ret
        exact ⟨rfl, hw⟩
set_option maxRecDepth 100000 in
set_option maxHeartbeats 2000000 in
theorem rFits_c (q : Rat) (n : Int) (w : World) (hq : szV q 475 21) (hn : 0 ≤ n ∧ n ≤ 200001) : Calls Tryz.prog 33 #[.string ⟨(rtoa q).toArray⟩, .int .i64 n] w (Ret w (.bool (fitB q n))) := by
  have h4 : rtoa 4 = [52] := by rw [show (4 : Rat) = ((4 : Int) : Rat) from rfl, rtoa_int]; decide +kernel
  have hlg : lng n ≤ 6 := (lng_le n (k := 6) (by omega)).2 (by omega)
  have hsz1 : szV (n : Rat) 1 5 := szV_int hlg
  have HW := Lib.hid (fun W => rwholeR n W (by omega))
  have HM := Lib.hid (fun W => by have := Times_q 4 q W (szV_four.s19 (by omega)) (hq.s19 (by omega)); rwa [h4] at this)
  have HN := Lib.hid (fun W => by
    have := Times_q (n : Rat) (n : Rat) W (hsz1.s19 (by omega)) (hsz1.s19 (by omega))
    rwa [show (n : Rat) * (n : Rat) = ((n * n : Int) : Rat) by simp] at this)
  have hsz2 : szV ((n * n : Int) : Rat) 2 10 := by rw [show ((n * n : Int) : Rat) = (n : Rat) * (n : Rat) by simp]; exact szV_mul hsz1 hsz1
  have HC := Lib.hid (fun W => Order_q (4 * q) ((n * n : Int) : Rat) W ((szV_mul szV_four hq).s19 (by omega)) (hsz2.s19 (by omega)))
  have hB : decide (cmpQ (4 * q) ((n * n : Int) : Rat) ≤ 0) = fitB q n := by
    unfold fitB fits
    exact decide_eq_decide.2 cmpQ_nonpos
  rw [← hB]
  clear hB hq hsz1 hsz2 h4 hlg
  generalize cmpQ (4 * q) ((n * n : Int) : Rat) = cc at *
  generalize rtoa (4 * q) = t4 at *
  generalize rtoa ((n * n : Int) : Rat) = tnn at *
  generalize rtoa ((n : Int) : Rat) = tn at *
  generalize rtoa q = tq at *
  have hB0 := Below.refl w.heap.size w
  go_enter Tryz.func33, Tryz.ntmps33
  go_wp2_with fail
  ((with_reducible refine (HW.out _).mono ?_); rintro e w1 ⟨rfl, hb1⟩)
  have hB1 := hB0.trans (hb1.mono hB0.size); clear hb1
  go_wp2_with fail
  ((with_reducible refine (HM.out _).mono ?_); rintro e w2 ⟨rfl, hb2⟩)
  have hB2 := hB1.trans (hb2.mono hB1.size); clear hb2
  go_wp2_with fail
  ((with_reducible refine (HN.out _).mono ?_); rintro e w3 ⟨rfl, hb3⟩)
  have hB3 := hB2.trans (hb3.mono hB2.size); clear hb3
  go_wp2_with fail
  ((with_reducible refine (HC.out _).mono ?_); rintro e w4 ⟨rfl, hb4⟩)
  have hB4 := hB3.trans (hb4.mono hB3.size); clear hb4
  go_wp2
  go_ret
  exact ⟨rfl, hB4⟩
set_option maxRecDepth 100000 in
set_option maxHeartbeats 8000000 in
theorem rFarthest_c (c : Ca) (fv dv sv : Value) (t : TQ) (ls : List Sp) (w : World) (hk : OkC c t) (S : SlX w sv ls) (hln : ls.length ≤ 64) (hpos : 0 < ls.length) (hin : ∀ p ∈ ls, InP p) :
    Calls Tryz.prog 47 #[caV c fv dv sv, ttV (tqT t)] w (Ret w (.tuple #[.string ⟨(rtoa (wst (fC c t ls) ls.length).1).toArray⟩, .int .i64 ((wst (fC c t ls) ls.length).2 : Int)])) := by
  have HOF := Lib.hid (fun i (hi : i < ls.length) W => rOff_c c.f fv t (Po.at_ ls i) W hk.k hk.p hk.t (hin _ (Po.at_mem hi)))
  have HFA := Lib.hid (fun i (hi : i < ls.length) (v : Value) W (S : SlS W v ((dvC c t (Po.at_ ls i)).map rtoa)) => rFar_c (dvC c t (Po.at_ ls i)) c.x.disc W (dvC_sh hk (hin _ (Po.at_mem hi))) S (dvC_pos hk _))
  change Hid (∀ i (hi : i < ls.length) W, Calls Tryz.prog 54 #[ftV c.f fv, ttV (tqT t), spV (Po.at_ ls i)] W (fun e w' => ∃ v, e = .returned v ∧ SlS w' v ((dvC c t (Po.at_ ls i)).map rtoa) ∧ Below W.heap.size W w')) at HOF
  change Hid (∀ i (hi : i < ls.length) (v : Value) W (S : SlS W v ((dvC c t (Po.at_ ls i)).map rtoa)), Calls Tryz.prog 34 #[v, .bool c.x.disc] W (Ret W (.string ⟨(rtoa (fC c t ls i)).toArray⟩))) at HFA
  have HCM := Lib.hid (fun i (hi : i < ls.length) W => Order_q (fC c t ls i) (wst (fC c t ls) i).1 W ((fC_sz hk hin hi).s19 (by omega)) ((sz_wst (fun j hj => fC_sz hk hin (ls := ls) hj) i (Nat.le_of_lt hi)).s19 (by omega)))
  have HNS := Lib.hid (show ls.length = ls.length from rfl)
  generalize fC c t ls = f at *
  have HY := Lib.hid (fun i (h : 0 < cmpQ (f i) (wst f i).1) => show wst f (i + 1) = (f i, i) from if_pos (cmpQ_pos.1 h))
  have HNO := Lib.hid (fun i (h : cmpQ (f i) (wst f i).1 ≤ 0) => show wst f (i + 1) = wst f i from if_neg (fun q => Int.not_lt.2 h (cmpQ_pos.2 q)))
  have H0 := Lib.hid (show rtoa (wst f 0).1 = [45, 49] from (rtoa_int (-1)).trans (by decide +kernel))
  have hJ := Tw.new w (caC c fv dv sv).toList (ttC (tqT t)).toList 40 38
  rcases S with ⟨a, cp, -, h0⟩ | ⟨b, off, cap, rfl, hR, hl⟩
  · rw [h0] at hpos; exact absurd hpos (by simp)
  have HR := Lib.hid (fun (W : World) (h : Below w.heap.size w W) i (hi : i < ls.length) => (hR.later h hl).sp hi)
  generalize dvC c t = DV at *
  clear hR hl hk hin
  generalize tqT t = tt at *
  obtain ⟨⟨nm, kind, axis, ⟨ax, ay, az⟩, lo, fhi⟩, ⟨xk, disc, tol, mat⟩, b0⟩ := c
  obtain ⟨a0, a1, a2, q0, q1, q2⟩ := tt
  simp only at hJ HFA HOF ⊢
  go_enter Tryz.func47, Tryz.ntmps47
  go_upto_region 1 with fail
  generalize hW0 : (w.alloc (.cells #[.string ⟨nm.toArray⟩, .int .i64 kind, .int .i64 axis, .int .i64 ax, .int .i64 ay, .int .i64 az, .int .i64 lo, .int .i64 fhi, fv, .int .i64 xk, .bool disc, .int .i64 tol, .int .i64 mat, dv, .slice (some ⟨b, off, none⟩) ls.length cap, .int .i64 b0] 40)).alloc (.cells #[.string ⟨a0.toArray⟩, .string ⟨a1.toArray⟩, .string ⟨a2.toArray⟩, .string ⟨q0.toArray⟩, .string ⟨q1.toArray⟩, .string ⟨q2.toArray⟩] 38) = W0 at *
  clear hW0
  generalize w.heap.size + 1 = gt at *
  have HJ := Lib.hid hJ
  clear hJ
  obtain ⟨n, hn⟩ : ∃ n, ls.length = n := ⟨_, rfl⟩
  have HLN := Lib.hid hn
  rw [hn] at HR hln hpos HOF HFA HJ HCM ⊢
  clear hn
  go_wp2_with fail
  go_loopw [6, 7, 8] (fun sb sa si wr => ∃ i : Nat, si = .int .i64 (i : Int) ∧ i ≤ n ∧ sb = .string ⟨(rtoa (wst f i).1).toArray⟩ ∧ sa = .int .i64 ((wst f i).2 : Int) ∧ Hid (Below W0.heap.size W0 wr)) (fun _ _ si _ => n - (intOf si).toNat)
  case atStart => exact ⟨0, rfl, Nat.zero_le _, by rw [H0.out], rfl, Below.refl _ _⟩
  case round =>
    obtain ⟨i, rfl, hi, rfl, rfl, hB⟩ := hrel
    by_cases hlt : i < n
    · have HRI := Lib.hid (fun W h => HR.out W h i hlt)
      have HO1 := Lib.hid (fun W => HOF.out i hlt W)
      have HF1 := Lib.hid (fun v W S => HFA.out i hlt v W S)
      generalize DV (Po.at_ ls i) = dvl at *
      generalize Po.at_ ls i = p at *
      obtain ⟨px, py, pz⟩ := p
      simp only at HRI HO1
      have j0 : (i : Int) < (n : Int) := by omega
      have j1 : (0 : Int) ≤ (i : Int) := by omega
      have HALL := Lib.hid (fun (W : World) (h : Below W0.heap.size W0 W) => by
        have hJ := HJ.out.later h
        obtain ⟨c0, c1, c2, c3, c4, c5, c6, c7, c8, c9, ca, cb, cc, cd, ce, cf⟩ := c16row hJ.a
        obtain ⟨t0, t1, t2, t3, t4, t5⟩ := c6row hJ.b
        obtain ⟨k0, k1, k2⟩ := HRI.out _ hJ.w
        exact (⟨c0, c1, c2, c3, c4, c5, c6, c7, c8, ca, ce,  t0, t1, t2, t3, t4, t5, k0, k1, k2, h⟩ : W.cell? ⟨w.heap.size, 0, none⟩ = some (.string ⟨nm.toArray⟩) ∧ W.cell? ⟨w.heap.size, 1, none⟩ = some (.int .i64 kind) ∧ W.cell? ⟨w.heap.size, 2, none⟩ = some (.int .i64 axis) ∧ W.cell? ⟨w.heap.size, 3, none⟩ = some (.int .i64 ax) ∧ W.cell? ⟨w.heap.size, 4, none⟩ = some (.int .i64 ay) ∧ W.cell? ⟨w.heap.size, 5, none⟩ = some (.int .i64 az) ∧ W.cell? ⟨w.heap.size, 6, none⟩ = some (.int .i64 lo) ∧ W.cell? ⟨w.heap.size, 7, none⟩ = some (.int .i64 fhi) ∧ W.cell? ⟨w.heap.size, 8, none⟩ = some (fv) ∧ W.cell? ⟨w.heap.size, 10, none⟩ = some (.bool disc) ∧ W.cell? ⟨w.heap.size, 14, none⟩ = some (.slice (some ⟨b, off, none⟩) n cap) ∧ W.cell? ⟨gt, 0, none⟩ = some (.string ⟨a0.toArray⟩) ∧ W.cell? ⟨gt, 1, none⟩ = some (.string ⟨a1.toArray⟩) ∧ W.cell? ⟨gt, 2, none⟩ = some (.string ⟨a2.toArray⟩) ∧ W.cell? ⟨gt, 3, none⟩ = some (.string ⟨q0.toArray⟩) ∧ W.cell? ⟨gt, 4, none⟩ = some (.string ⟨q1.toArray⟩) ∧ W.cell? ⟨gt, 5, none⟩ = some (.string ⟨q2.toArray⟩) ∧ W.cell? ⟨b, off + i * 3, none⟩ = some (.int .i64 px) ∧ W.cell? ⟨b, off + i * 3 + 1, none⟩ = some (.int .i64 py) ∧ W.cell? ⟨b, off + i * 3 + 2, none⟩ = some (.int .i64 pz) ∧ Below W0.heap.size W0 W))
      have cx := (c16row (HJ.out.later hB.out).a).2.2.2.2.2.2.2.2.2.2.2.2.2.2.1
      have HC1 := Lib.hid (fun W => HCM.out i hlt W)
      have HY1 := Lib.hid (fun h => HY.out i h)
      have HN1 := Lib.hid (fun h => HNO.out i h)
      generalize cmpQ (f i) (wst f i).1 = cq at *
      obtain ⟨tq, htq⟩ : ∃ t, rtoa (f i) = t := ⟨_, rfl⟩
      obtain ⟨tb, htb⟩ : ∃ t, rtoa (wst f i).1 = t := ⟨_, rfl⟩
      obtain ⟨ai, hai⟩ : ∃ a, (wst f i).2 = a := ⟨_, rfl⟩
      rw [htq] at HF1 HC1
      rw [htb] at HC1 ⊢
      rw [hai]
      have HTQ := Lib.hid htq
      have HTB := Lib.hid htb
      have HTA := Lib.hid hai
      clear htq htb hai
      go_upto_region 5 with fail
      clear cx
      go_region_held3 (fun W => W.cell? ⟨w.heap.size, 0, none⟩ = some (.string ⟨nm.toArray⟩) ∧ W.cell? ⟨w.heap.size, 1, none⟩ = some (.int .i64 kind) ∧ W.cell? ⟨w.heap.size, 2, none⟩ = some (.int .i64 axis) ∧ W.cell? ⟨w.heap.size, 3, none⟩ = some (.int .i64 ax) ∧ W.cell? ⟨w.heap.size, 4, none⟩ = some (.int .i64 ay) ∧ W.cell? ⟨w.heap.size, 5, none⟩ = some (.int .i64 az) ∧ W.cell? ⟨w.heap.size, 6, none⟩ = some (.int .i64 lo) ∧ W.cell? ⟨w.heap.size, 7, none⟩ = some (.int .i64 fhi) ∧ W.cell? ⟨w.heap.size, 8, none⟩ = some (fv) ∧ W.cell? ⟨w.heap.size, 10, none⟩ = some (.bool disc) ∧ W.cell? ⟨w.heap.size, 14, none⟩ = some (.slice (some ⟨b, off, none⟩) n cap) ∧ W.cell? ⟨gt, 0, none⟩ = some (.string ⟨a0.toArray⟩) ∧ W.cell? ⟨gt, 1, none⟩ = some (.string ⟨a1.toArray⟩) ∧ W.cell? ⟨gt, 2, none⟩ = some (.string ⟨a2.toArray⟩) ∧ W.cell? ⟨gt, 3, none⟩ = some (.string ⟨q0.toArray⟩) ∧ W.cell? ⟨gt, 4, none⟩ = some (.string ⟨q1.toArray⟩) ∧ W.cell? ⟨gt, 5, none⟩ = some (.string ⟨q2.toArray⟩) ∧ W.cell? ⟨b, off + i * 3, none⟩ = some (.int .i64 px) ∧ W.cell? ⟨b, off + i * 3 + 1, none⟩ = some (.int .i64 py) ∧ W.cell? ⟨b, off + i * 3 + 2, none⟩ = some (.int .i64 pz) ∧ Below W0.heap.size W0 W)
        (first | with_reducible exact HALL.out _ B2 | with_reducible exact HALL.out _ B1 | with_reducible exact HALL.out _ hB.out | with_reducible exact HALL.out _ hB.out.drew)
        (first
          | (go_at_call 54; (with_reducible refine (HO1.out _).mono ?_); rintro e v1 ⟨v, rfl, hS1, hb1⟩; (first | (with_reducible have B1 := hB.out.drew.nx hb1) | (with_reducible have B1 := hB.out.nx hb1)))
          | (go_at_call 34; (with_reducible refine (HF1.out _ _ hS1).mono ?_); rintro e v2 ⟨rfl, hb2⟩; have B2 := B1.nx hb2)
          | fail)
      all_goals
        have HB2 := Lib.hid B2
        clear hb1 hb2 B1 B2 hS1 hB
        go_wp2_with fail
        ((with_reducible refine (HC1.out _).mono ?_); rintro e w3 ⟨rfl, hb3⟩)
        have HB3 := Lib.hid (HB2.out.nx hb3)
        clear hb3 HB2
        by_cases hc : 0 < cq
        · have HQ := Lib.hid (HY1.out hc)
          clear HY1 HN1
          go_wp2
          go_roundw
          case rel => exact ⟨i + 1, by go_num, by omega, by rw [HQ.out, HTQ.out], by rw [HQ.out], HB3.out⟩
          case measure => simp [intOf]; omega
        · have HQ := Lib.hid (HN1.out (Int.not_lt.1 hc))
          clear HY1 HN1
          go_wp2
          go_roundw
          case rel => exact ⟨i + 1, by go_num, by omega, by rw [HQ.out, HTB.out], by rw [HQ.out, HTA.out], HB3.out⟩
          case measure => simp [intOf]; omega
    · obtain rfl : i = n := by omega
      have hw := HJ.out.w.nx hB.out
      have cx := (c16row (HJ.out.later hB.out).a).2.2.2.2.2.2.2.2.2.2.2.2.2.2.1
      clear hB
      clear HY HNO HCM H0
      have h1 : rtoa (wst f i).1 = rtoa (wst f ls.length).1 := by rw [HLN.out]
      have h2 : (wst f i).2 = (wst f ls.length).2 := by rw [HLN.out]
      rw [h1, h2]
      clear h1 h2
      go_wp2
      go_ret2
      exact ⟨rfl, hw⟩
end Go.Proofs.Wk
