/- POSITION: the first point outside, in the program. -/
import Derived.Test.YtphbikfkeinmnaaGreatDoorPG
import Derived.Test.YtphbikfkeinmnaaGreatDoorQE
import Derived.Deep.RegionHeld3
import Derived.Test.YtphbikfkeinmnaaGreatDoorPN
import Derived.Test.YtphbikfkeinmnaaGreatDoorPM
namespace Go.Proofs.Wk
open Go.RowKit Mt Po

theorem SlX.spF {w : World} {v : Value} {ls : List Sp} (S : SlX w v ls) : ∃ sa cap, v = .slice sa ls.length cap ∧ ∀ i, i < ls.length → ∃ b off, sa = some ⟨b, off, none⟩ ∧ ∀ W, Below w.heap.size w W →
    W.cell? ⟨b, off + i * 3, none⟩ = some (.int .i64 (Po.at_ ls i).x) ∧ W.cell? ⟨b, off + i * 3 + 1, none⟩ = some (.int .i64 (Po.at_ ls i).y) ∧ W.cell? ⟨b, off + i * 3 + 2, none⟩ = some (.int .i64 (Po.at_ ls i).z) := by
  rcases S with ⟨a, c, rfl, rfl⟩ | ⟨b, off, c, rfl, hR, hb⟩
  · exact ⟨a, c, rfl, fun i h => absurd h (Nat.not_lt_zero _)⟩
  · exact ⟨_, c, rfl, fun i hi => ⟨b, off, rfl, fun W h => (hR.later h hb).sp hi⟩⟩
set_option maxRecDepth 100000 in
set_option maxHeartbeats 8000000 in
theorem outside_c (c : Ca) (fv dv sv : Value) (t : TQ) (ls : List Sp) (w : World) (hg : Good w) (hk : OkC c t) (S : SlX w sv ls) (hln : ls.length ≤ 64) (hin : ∀ p ∈ ls, InP p) (ht : 0 ≤ c.x.tol ∧ c.x.tol ≤ 100000) (hb : 0 ≤ c.b ∧ c.b ≤ 100000) :
    Calls Tryz.prog 67 #[caV c fv dv sv, ttV (tqT t)] w (Ret w (.tuple #[.int .i64 (outI (fC c t ls) (c.x.tol + c.b) ls.length), .int .i64 0])) := by
  have HSQ := Lib.hid (fun i (hi : i < ls.length) W (h : Below w.heap.size w W) => squared_c c fv dv sv t (Po.at_ ls i) W (hg.later h) hk (hin _ (Po.at_mem hi)))
  have HFT := Lib.hid (fun i (hi : i < ls.length) W (h : Below w.heap.size w W) => pfits_c (fC c t ls i) (c.x.tol + c.b) W (hg.later h) (fC_sz hk hin hi) (by omega))
  change Hid (∀ i (hi : i < ls.length) W (h : Below w.heap.size w W), Calls Tryz.prog 44 #[caV c fv dv sv, ttV (tqT t), spV (Po.at_ ls i)] W (Ret W (ans2 (rtoa (fC c t ls i), 0)))) at HSQ
  have HNO := Lib.hid (fun h => outI_none (f := fC c t ls) (w := c.x.tol + c.b) (n := ls.length) h)
  have HSO := Lib.hid (fun (i : Nat) (hi : i < ls.length) h h2 => outI_some (f := fC c t ls) (w := c.x.tol + c.b) hi h h2)
  generalize outI (fC c t ls) (c.x.tol + c.b) ls.length = OI at *
  generalize fC c t ls = f at *
  obtain ⟨sa, cap, rfl, h1⟩ := S.spF
  have H1 := Lib.hid h1
  have hJ := Tw.new w (caC c fv dv (.slice sa ls.length cap)).toList (ttC (tqT t)).toList 34 38
  clear S h1 hk hin hg
  generalize tqT t = tt at *
  obtain ⟨⟨nm, kind, axis, ⟨ax, ay, az⟩, lo, hi⟩, ⟨xk, disc, tol, mat⟩, b0⟩ := c
  simp only at hJ HFT HNO HSO ht hb
  have hw : IntKind.i64.wrap (tol + b0) = tol + b0 := IntWalk.i64_in _ (by omega)
  obtain ⟨s, hs⟩ : ∃ s, tol + b0 = s := ⟨_, rfl⟩
  replace hw := hw.trans hs
  rw [hs] at HFT HNO HSO
  clear hs ht hb
  generalize Po.at_ ls = pF at *
  generalize ls.length = n at *
  go_enter Tryz.func67, Tryz.ntmps67
  go_upto_region 1 with fail
  generalize hW0 : (w.alloc (.cells #[.string ⟨nm.toArray⟩, .int .i64 kind, .int .i64 axis, .int .i64 ax, .int .i64 ay, .int .i64 az, .int .i64 lo, .int .i64 hi, fv, .int .i64 xk, .bool disc, .int .i64 tol, .int .i64 mat, dv, .slice sa n cap, .int .i64 b0] 34)).alloc (.cells (ttC tt) 38) = W0 at *
  clear hW0
  generalize w.heap.size + 1 = gt at *
  obtain ⟨c0, c1, c2, c3, c4, c5, c6, c7, c8, c9, ca, cb, cc, cd, ce, cf⟩ := c16row hJ.a
  clear c0 c1 c2 c3 c4 c5 c6 c7 c8 c9 ca cb cc cd cf
  have HJ1 := Lib.hid hJ
  clear hJ
  go_wp2_with fail
  clear ce
  go_loopw [14] (fun si wr => ∃ i : Nat, si = .int .i64 (i : Int) ∧ i ≤ n ∧ Hid (∀ k, k < i → fitB (f k) s = true) ∧ Hid (Below W0.heap.size W0 wr)) (fun si _ => n - (intOf si).toNat)
  case atStart => exact ⟨0, rfl, Nat.zero_le _, fun k hk => absurd hk (Nat.not_lt_zero _), Below.refl _ _⟩
  case round =>
    obtain ⟨i, rfl, hi2, hK, hB⟩ := hrel
    by_cases hlt : i < n
    · obtain ⟨b, off, rfl, f1⟩ := H1.out i hlt
      obtain ⟨k0, k1, k2⟩ := f1 _ (HJ1.out.w.nx hB.out)
      have HS1 := Lib.hid (fun W h => HSQ.out i hlt W h)
      have HF1 := Lib.hid (fun W h => HFT.out i hlt W h)
      have HSO1 := Lib.hid (fun (e : fitB (f i) s = false) => HSO.out i hlt hK.out e)
      have HKN := Lib.hid (fun (e : fitB (f i) s = true) (k : Nat) (hk : k < i + 1) => show fitB (f k) s = true from by
        by_cases q : k = i
        · subst q; exact e
        · exact hK.out k (by omega))
      have j1 : (i : Int) < (n : Int) := by omega
      have j2 : (0 : Int) ≤ (i : Int) := by omega
      clear f1 H1 HSQ HFT HSO HNO hK
      generalize fitB (f i) s = FB at *
      generalize pF i = p at *
      obtain ⟨px, py, pz⟩ := p
      simp only at k0 k1 k2 HS1
      obtain ⟨tq, htq⟩ : ∃ t, rtoa (f i) = t := ⟨_, rfl⟩
      rw [htq] at HS1 HF1
      clear htq
      have hal := below_al wr (.cells #[.int .i64 px, .int .i64 py, .int .i64 pz] 23)
      have HB1 := Lib.hid (hB.out.nx hal)
      obtain ⟨c0, c1, c2, c3, c4, c5, c6, c7, c8, c9, ca, cb, cc, cd, ce, cf⟩ := c16row (HJ1.out.later HB1.out).a
      obtain ⟨t0, t1, t2, t3, t4, t5⟩ := c6row (HJ1.out.later HB1.out).b
      have hnew := heap_alloc_new wr (.cells #[.int .i64 px, .int .i64 py, .int .i64 pz] 23)
      go_upto_region 4 with fail
      generalize wr.alloc (.cells #[.int .i64 px, .int .i64 py, .int .i64 pz] 23) = W2 at *
      obtain ⟨p0, p1, p2⟩ := c3row hnew
      go_wp2_with fail
      ((with_reducible refine (HS1.out _ (HJ1.out.w.nx HB1.out)).mono ?_); rintro e w2 ⟨rfl, hb2⟩)
      have HB2 := Lib.hid (HB1.out.nx hb2)
      clear hb2 hal k0 k1 k2 p0 p1 p2 hnew c0 c1 c2 c3 c4 c5 c6 c7 c8 c9 ca cb cc cd ce cf t0 t1 t2 t3 t4 t5 hB HB1 HS1
      obtain ⟨c0, c1, c2, c3, c4, c5, c6, c7, c8, c9, ca, cb, cc, cd, ce, cf⟩ := c16row (HJ1.out.later HB2.out).a
      clear c0 c1 c2 c3 c4 c5 c6 c7 c8 c9 ca cc cd ce
      go_wp2_with fail
      ((with_reducible refine (HF1.out _ (HJ1.out.w.nx HB2.out)).mono ?_); rintro e w3 ⟨rfl, hb3⟩)
      have HB3 := Lib.hid (HB2.out.nx hb3)
      clear hb3 HB2 cb cf HF1
      cases FB with
      | true =>
        have HK2 := Lib.hid (HKN.out rfl)
        clear HKN HSO1
        go_wp2
        go_roundw
        case rel => exact ⟨i + 1, by go_num, by omega, HK2.out, HB3.out⟩
        case measure => simp [intOf]; omega
      | false =>
        obtain rfl : OI = (i : Int) := HSO1.out rfl
        have hw3 := HJ1.out.w.nx HB3.out
        clear HKN HSO1 HJ1 HB3
        go_wp2
        go_ret2
        exact ⟨rfl, hw3⟩
    · obtain rfl : i = n := by omega
      obtain rfl : OI = -1 := HNO.out hK.out
      have hw3 := HJ1.out.w.nx hB.out
      clear H1 HSQ HFT HSO HNO hK HJ1 hB
      go_wp2
      go_ret2
      exact ⟨rfl, hw3⟩
end Go.Proofs.Wk
/- POSITION: the first point outside, in the reference. -/
namespace Go.Proofs.Wk
open Go.RowKit Mt Po

set_option maxRecDepth 100000 in
set_option maxHeartbeats 8000000 in
theorem routside_c (c : Ca) (fv dv sv : Value) (t : TQ) (ls : List Sp) (w : World) (hk : OkC c t) (S : SlX w sv ls) (hln : ls.length ≤ 64) (hin : ∀ p ∈ ls, InP p) (ht : 0 ≤ c.x.tol ∧ c.x.tol ≤ 100000) (hb : 0 ≤ c.b ∧ c.b ≤ 100000) :
    Calls Tryz.prog 72 #[caV c fv dv sv, ttV (tqT t)] w (Ret w (.int .i64 (outI (fC c t ls) (c.x.tol + c.b) ls.length))) := by
  have HOF := Lib.hid (fun i (hi : i < ls.length) W => rOff_c c.f fv t (Po.at_ ls i) W hk.k hk.p hk.t (hin _ (Po.at_mem hi)))
  have HFA := Lib.hid (fun i (hi : i < ls.length) (v : Value) W (S : SlS W v ((dvC c t (Po.at_ ls i)).map rtoa)) => rFar_c (dvC c t (Po.at_ ls i)) c.x.disc W (dvC_sh hk (hin _ (Po.at_mem hi))) S (dvC_pos hk _))
  have HFT := Lib.hid (fun i (hi : i < ls.length) W => rFits_c (fC c t ls i) (c.x.tol + c.b) W (fC_sz hk hin hi) (by omega))
  change Hid (∀ i (hi : i < ls.length) W, Calls Tryz.prog 54 #[ftV c.f fv, ttV (tqT t), spV (Po.at_ ls i)] W (fun e w' => ∃ v, e = .returned v ∧ SlS w' v ((dvC c t (Po.at_ ls i)).map rtoa) ∧ Below W.heap.size W w')) at HOF
  change Hid (∀ i (hi : i < ls.length) (v : Value) W (S : SlS W v ((dvC c t (Po.at_ ls i)).map rtoa)), Calls Tryz.prog 34 #[v, .bool c.x.disc] W (Ret W (.string ⟨(rtoa (fC c t ls i)).toArray⟩))) at HFA
  have HNO := Lib.hid (fun h => outI_none (f := fC c t ls) (w := c.x.tol + c.b) (n := ls.length) h)
  have HSO := Lib.hid (fun (i : Nat) (hi : i < ls.length) h h2 => outI_some (f := fC c t ls) (w := c.x.tol + c.b) hi h h2)
  generalize outI (fC c t ls) (c.x.tol + c.b) ls.length = OI at *
  generalize fC c t ls = f at *
  obtain ⟨sa, cap, rfl, h1⟩ := S.spF
  have H1 := Lib.hid h1
  have hJ := Tw.new w (caC c fv dv (.slice sa ls.length cap)).toList (ttC (tqT t)).toList 40 38
  generalize dvC c t = DV at *
  clear S h1 hk hin
  generalize tqT t = tt at *
  obtain ⟨⟨nm, kind, axis, ⟨ax, ay, az⟩, lo, fhi⟩, ⟨xk, disc, tol, mat⟩, b0⟩ := c
  obtain ⟨a0, a1, a2, q0, q1, q2⟩ := tt
  simp only at hJ HOF HFA HFT HNO HSO ht hb ⊢
  have hw : IntKind.i64.wrap (tol + b0) = tol + b0 := IntWalk.i64_in _ (by omega)
  obtain ⟨s, hs⟩ : ∃ s, tol + b0 = s := ⟨_, rfl⟩
  replace hw := hw.trans hs
  rw [hs] at HFT HNO HSO
  clear hs ht hb
  generalize Po.at_ ls = pF at *
  generalize ls.length = n at *
  go_enter Tryz.func72, Tryz.ntmps72
  go_upto_region 1 with fail
  generalize hW0 : (w.alloc (.cells #[.string ⟨nm.toArray⟩, .int .i64 kind, .int .i64 axis, .int .i64 ax, .int .i64 ay, .int .i64 az, .int .i64 lo, .int .i64 fhi, fv, .int .i64 xk, .bool disc, .int .i64 tol, .int .i64 mat, dv, .slice sa n cap, .int .i64 b0] 40)).alloc (.cells #[.string ⟨a0.toArray⟩, .string ⟨a1.toArray⟩, .string ⟨a2.toArray⟩, .string ⟨q0.toArray⟩, .string ⟨q1.toArray⟩, .string ⟨q2.toArray⟩] 38) = W0 at *
  clear hW0
  generalize w.heap.size + 1 = gt at *
  have HJ := Lib.hid hJ
  clear hJ
  go_wp2_with fail
  go_loopw [5] (fun si wr => ∃ i : Nat, si = .int .i64 (i : Int) ∧ i ≤ n ∧ Hid (∀ k, k < i → fitB (f k) s = true) ∧ Hid (Below W0.heap.size W0 wr)) (fun si _ => n - (intOf si).toNat)
  case atStart => exact ⟨0, rfl, Nat.zero_le _, fun k hk => absurd hk (Nat.not_lt_zero _), Below.refl _ _⟩
  case round =>
    obtain ⟨i, rfl, hi2, hK, hB⟩ := hrel
    have cx := (c16row (HJ.out.later hB.out).a).2.2.2.2.2.2.2.2.2.2.2.2.2.2.1
    by_cases hlt : i < n
    · obtain ⟨b, off, rfl, f1⟩ := H1.out i hlt
      have HRI := Lib.hid f1
      have HO1 := Lib.hid (fun W => HOF.out i hlt W)
      have HF1 := Lib.hid (fun v W S => HFA.out i hlt v W S)
      have HT1 := Lib.hid (fun W => HFT.out i hlt W)
      have HSO1 := Lib.hid (fun (e : fitB (f i) s = false) => HSO.out i hlt hK.out e)
      have HKN := Lib.hid (fun (e : fitB (f i) s = true) (k : Nat) (hk : k < i + 1) => show fitB (f k) s = true from by
        by_cases q : k = i
        · subst q; exact e
        · exact hK.out k (by omega))
      have j0 : (i : Int) < (n : Int) := by omega
      have j1 : (0 : Int) ≤ (i : Int) := by omega
      clear f1 H1 HOF HFA HFT HSO HNO hK
      generalize fitB (f i) s = FB at *
      generalize DV (pF i) = dvl at *
      generalize pF i = p at *
      obtain ⟨px, py, pz⟩ := p
      simp only at HRI HO1
      have HALL := Lib.hid (fun (W : World) (h : Below W0.heap.size W0 W) => by
        have hJ := HJ.out.later h
        obtain ⟨c0, c1, c2, c3, c4, c5, c6, c7, c8, c9, ca, cb, cc, cd, ce, cf⟩ := c16row hJ.a
        obtain ⟨t0, t1, t2, t3, t4, t5⟩ := c6row hJ.b
        obtain ⟨k0, k1, k2⟩ := HRI.out _ hJ.w
        exact (⟨c0, c1, c2, c3, c4, c5, c6, c7, c8, ca, cb, ce, cf, t0, t1, t2, t3, t4, t5, k0, k1, k2, h⟩ : W.cell? ⟨w.heap.size, 0, none⟩ = some (.string ⟨nm.toArray⟩) ∧ W.cell? ⟨w.heap.size, 1, none⟩ = some (.int .i64 kind) ∧ W.cell? ⟨w.heap.size, 2, none⟩ = some (.int .i64 axis) ∧ W.cell? ⟨w.heap.size, 3, none⟩ = some (.int .i64 ax) ∧ W.cell? ⟨w.heap.size, 4, none⟩ = some (.int .i64 ay) ∧ W.cell? ⟨w.heap.size, 5, none⟩ = some (.int .i64 az) ∧ W.cell? ⟨w.heap.size, 6, none⟩ = some (.int .i64 lo) ∧ W.cell? ⟨w.heap.size, 7, none⟩ = some (.int .i64 fhi) ∧ W.cell? ⟨w.heap.size, 8, none⟩ = some (fv) ∧ W.cell? ⟨w.heap.size, 10, none⟩ = some (.bool disc) ∧ W.cell? ⟨w.heap.size, 11, none⟩ = some (.int .i64 tol) ∧ W.cell? ⟨w.heap.size, 14, none⟩ = some (.slice (some ⟨b, off, none⟩) n cap) ∧ W.cell? ⟨w.heap.size, 15, none⟩ = some (.int .i64 b0) ∧ W.cell? ⟨gt, 0, none⟩ = some (.string ⟨a0.toArray⟩) ∧ W.cell? ⟨gt, 1, none⟩ = some (.string ⟨a1.toArray⟩) ∧ W.cell? ⟨gt, 2, none⟩ = some (.string ⟨a2.toArray⟩) ∧ W.cell? ⟨gt, 3, none⟩ = some (.string ⟨q0.toArray⟩) ∧ W.cell? ⟨gt, 4, none⟩ = some (.string ⟨q1.toArray⟩) ∧ W.cell? ⟨gt, 5, none⟩ = some (.string ⟨q2.toArray⟩) ∧ W.cell? ⟨b, off + i * 3, none⟩ = some (.int .i64 px) ∧ W.cell? ⟨b, off + i * 3 + 1, none⟩ = some (.int .i64 py) ∧ W.cell? ⟨b, off + i * 3 + 2, none⟩ = some (.int .i64 pz) ∧ Below W0.heap.size W0 W))
      obtain ⟨tq, htq⟩ : ∃ t, rtoa (f i) = t := ⟨_, rfl⟩
      rw [htq] at HF1 HT1
      clear htq
      go_upto_region 4 with fail
      clear cx
      go_region_held3 (fun W => W.cell? ⟨w.heap.size, 0, none⟩ = some (.string ⟨nm.toArray⟩) ∧ W.cell? ⟨w.heap.size, 1, none⟩ = some (.int .i64 kind) ∧ W.cell? ⟨w.heap.size, 2, none⟩ = some (.int .i64 axis) ∧ W.cell? ⟨w.heap.size, 3, none⟩ = some (.int .i64 ax) ∧ W.cell? ⟨w.heap.size, 4, none⟩ = some (.int .i64 ay) ∧ W.cell? ⟨w.heap.size, 5, none⟩ = some (.int .i64 az) ∧ W.cell? ⟨w.heap.size, 6, none⟩ = some (.int .i64 lo) ∧ W.cell? ⟨w.heap.size, 7, none⟩ = some (.int .i64 fhi) ∧ W.cell? ⟨w.heap.size, 8, none⟩ = some (fv) ∧ W.cell? ⟨w.heap.size, 10, none⟩ = some (.bool disc) ∧ W.cell? ⟨w.heap.size, 11, none⟩ = some (.int .i64 tol) ∧ W.cell? ⟨w.heap.size, 14, none⟩ = some (.slice (some ⟨b, off, none⟩) n cap) ∧ W.cell? ⟨w.heap.size, 15, none⟩ = some (.int .i64 b0) ∧ W.cell? ⟨gt, 0, none⟩ = some (.string ⟨a0.toArray⟩) ∧ W.cell? ⟨gt, 1, none⟩ = some (.string ⟨a1.toArray⟩) ∧ W.cell? ⟨gt, 2, none⟩ = some (.string ⟨a2.toArray⟩) ∧ W.cell? ⟨gt, 3, none⟩ = some (.string ⟨q0.toArray⟩) ∧ W.cell? ⟨gt, 4, none⟩ = some (.string ⟨q1.toArray⟩) ∧ W.cell? ⟨gt, 5, none⟩ = some (.string ⟨q2.toArray⟩) ∧ W.cell? ⟨b, off + i * 3, none⟩ = some (.int .i64 px) ∧ W.cell? ⟨b, off + i * 3 + 1, none⟩ = some (.int .i64 py) ∧ W.cell? ⟨b, off + i * 3 + 2, none⟩ = some (.int .i64 pz) ∧ Below W0.heap.size W0 W)
        (first | with_reducible exact HALL.out _ B3 | with_reducible exact HALL.out _ B2 | with_reducible exact HALL.out _ B1 | with_reducible exact HALL.out _ hB.out | with_reducible exact HALL.out _ hB.out.drew)
        (first
          | (go_at_call 54; (with_reducible refine (HO1.out _).mono ?_); rintro e v1 ⟨v, rfl, hS1, hb1⟩; (first | (with_reducible have B1 := hB.out.drew.nx hb1) | (with_reducible have B1 := hB.out.nx hb1)))
          | (go_at_call 34; (with_reducible refine (HF1.out _ _ hS1).mono ?_); rintro e v2 ⟨rfl, hb2⟩; have B2 := B1.nx hb2)
          | (go_at_call 33; (with_reducible refine (HT1.out _).mono ?_); rintro e v3 ⟨rfl, hb3⟩; have B3 := B2.nx hb3)
          | fail)
      all_goals
        have HB3 := Lib.hid B3
        clear hb1 hb2 hb3 B1 B2 B3 hS1 hB
        cases FB with
        | true =>
          have HK2 := Lib.hid (HKN.out rfl)
          clear HKN HSO1
          go_wp2
          go_roundw
          case rel => exact ⟨i + 1, by go_num, by omega, HK2.out, HB3.out⟩
          case measure => simp [intOf]; omega
        | false =>
          obtain rfl : OI = (i : Int) := HSO1.out rfl
          have hw3 := HJ.out.w.nx HB3.out
          clear HKN HSO1 HJ HB3
          go_wp2
          go_ret
          exact ⟨rfl, hw3⟩
    · obtain rfl : i = n := by omega
      obtain rfl : OI = -1 := HNO.out hK.out
      have hw3 := HJ.out.w.nx hB.out
      clear H1 HOF HFA HFT HSO HNO hK HJ hB
      go_wp2
      go_ret
      exact ⟨rfl, hw3⟩
end Go.Proofs.Wk
/- POSITION: choosing, what it answers: the plain law; in the program. -/
namespace Go.Proofs.Wk
open Go.RowKit Mt Po

/-- The error of the first torsor that is wrong. -/
def tsE : List TT → Int
  | [] => 0
  | t :: r => if ttE t = 0 then tsE r else ttE t
theorem tsE_zero {ts : List TT} : tsE ts = 0 ↔ ∀ t ∈ ts, ttE t = 0 := by
  induction ts with
  | nil => simp [tsE]
  | cons a r ih =>
    unfold tsE
    by_cases q : ttE a = 0
    · rw [if_pos q, ih]; simp [q]
    · rw [if_neg q]; simp [q]
theorem tsE_end {ts : List TT} (h : ∀ k, k < ts.length → ttE (tA ts k) = 0) : tsE ts = 0 :=
  tsE_zero.2 fun t ht => by
    obtain ⟨i, hi, rfl⟩ := List.getElem_of_mem ht
    have := h i hi
    rwa [tA_get hi] at this
theorem tA_cons (a : TT) (r : List TT) (i : Nat) : tA (a :: r) (i + 1) = tA r i := by unfold tA; rfl
theorem tsE_at : ∀ {ts : List TT} {i : Nat}, i < ts.length → (∀ k, k < i → ttE (tA ts k) = 0) → ttE (tA ts i) ≠ 0 → tsE ts = ttE (tA ts i)
  | [], _, h, _, _ => absurd h (Nat.not_lt_zero _)
  | a :: r, 0, _, _, h2 => by
    have : tA (a :: r) 0 = a := rfl
    rw [this] at h2 ⊢
    unfold tsE
    rw [if_neg h2]
  | a :: r, i + 1, h, hb, h2 => by
    have h0 : ttE a = 0 := hb 0 (Nat.succ_pos i)
    rw [tA_cons] at h2 ⊢
    unfold tsE
    rw [if_pos h0]
    exact tsE_at (by simpa using h) (fun k hk => by have := hb (k + 1) (by omega); rwa [tA_cons] at this) h2
/-- The error of a choice. -/
def chE (E : Int) (m : Nat) (ts : List TT) : Int := if E ≠ 0 then E else if 256 < ts.length then 5 else if tsE ts ≠ 0 then tsE ts else if ts.length = 0 ∨ m = 0 then 13 else 0
theorem chE_zero {E : Int} {m : Nat} {ts : List TT} (h : chE E m ts = 0) : E = 0 ∧ ts.length ≤ 256 ∧ tsE ts = 0 ∧ 0 < ts.length ∧ 0 < m := by
  unfold chE at h
  split at h
  · contradiction
  split at h
  · contradiction
  split at h
  · contradiction
  split at h
  · contradiction
  rename_i h1 h2 h3 h4
  exact ⟨Classical.not_not.1 h1, by omega, Classical.not_not.1 h3, by omega, by omega⟩
/-- The first placement that takes all points, the points outside. -/
def chF (o : Nat → Int) (n : Nat) : Option Nat := (List.range n).find? fun i => decide (o i < 0)
def chI (o : Nat → Int) (n : Nat) : Int := match chF o n with | some i => (i : Int) | none => 0
def chT (o : Nat → Int) (n : Nat) : List Nat := (List.range n).map fun i => (o i).toNat
def chL (o : Nat → Int) (n : Nat) : List Nat := match chF o n with | some _ => [] | none => chT o n
def chB (o : Nat → Int) (n : Nat) : Bool := (chF o n).isSome
theorem chF_some {o : Nat → Int} {n i : Nat} (hi : i < n) (h : ∀ k, k < i → 0 ≤ o k) (h2 : o i < 0) : chF o n = some i := by
  unfold chF
  exact List.find?_range_eq_some.2 ⟨by simpa using h2, List.mem_range.2 hi, fun j hj => by simpa using h j hj⟩
theorem chF_none {o : Nat → Int} {n : Nat} (h : ∀ k, k < n → 0 ≤ o k) : chF o n = none := by
  unfold chF
  exact List.find?_eq_none.2 fun i hi => by simpa using h i (List.mem_range.1 hi)
theorem ch_some {o : Nat → Int} {n i : Nat} (hi : i < n) (h : ∀ k, k < i → 0 ≤ o k) (h2 : o i < 0) : chI o n = (i : Int) ∧ chL o n = [] ∧ chB o n = true := by
  unfold chI chL chB
  rw [chF_some hi h h2]
  exact ⟨rfl, rfl, rfl⟩
theorem ch_none {o : Nat → Int} {n : Nat} (h : ∀ k, k < n → 0 ≤ o k) : chI o n = 0 ∧ chL o n = chT o n ∧ chB o n = false := by
  unfold chI chL chB
  rw [chF_none h]
  exact ⟨rfl, rfl, rfl⟩
theorem chT_succ (o : Nat → Int) (n : Nat) {k : Nat} (h : o n = (k : Int)) : chT o (n + 1) = chT o n ++ [k] := by
  unfold chT
  rw [List.range_succ, List.map_append, List.map_singleton, h, Int.toNat_natCast]
theorem chT_len (o : Nat → Int) (n : Nat) : (chT o n).length = n := by unfold chT; simp
/-- A choice that is made. -/
def ChR (w : World) (o : Nat → Int) (n : Nat) (e : Ending) (w' : World) : Prop := ∃ v, e = .returned (.tuple #[.int .i64 (chI o n), v, .bool (chB o n), .int .i64 0]) ∧ SlX w' v (chL o n) ∧ Below w.heap.size w w'
theorem SlX.ttF {w : World} {v : Value} {ls : List TT} (S : SlX w v ls) : ∃ sa cap, v = .slice sa ls.length cap ∧ ∀ i, i < ls.length → ∃ b off, sa = some ⟨b, off, none⟩ ∧ ∀ W, Below w.heap.size w W → (W.cell? ⟨b, off + i * 6, none⟩ = some (.string ⟨(tA ls i).a0.toArray⟩) ∧ W.cell? ⟨b, off + i * 6 + 1, none⟩ = some (.string ⟨(tA ls i).a1.toArray⟩) ∧ W.cell? ⟨b, off + i * 6 + 2, none⟩ = some (.string ⟨(tA ls i).a2.toArray⟩) ∧
      W.cell? ⟨b, off + i * 6 + 3, none⟩ = some (.string ⟨(tA ls i).b0.toArray⟩) ∧ W.cell? ⟨b, off + i * 6 + 4, none⟩ = some (.string ⟨(tA ls i).b1.toArray⟩) ∧ W.cell? ⟨b, off + i * 6 + 5, none⟩ = some (.string ⟨(tA ls i).b2.toArray⟩)) := by
  rcases S with ⟨a, c, rfl, rfl⟩ | ⟨b, off, c, rfl, hR, hb⟩
  · exact ⟨a, c, rfl, fun i h => absurd h (Nat.not_lt_zero _)⟩
  · exact ⟨_, c, rfl, fun i hi => ⟨b, off, rfl, fun W h => (hR.later h hb).tt hi⟩⟩
theorem results_tmp4 {fn : Func} {t u v x : Tmp} (h : fn.results = #[.tmp t, .tmp u, .tmp v, .tmp x]) (tmps : Array Value) (P : Program) (w : World) :
    (results fn tmps).run P w = .ok (.tuple #[tmps.getD t undef, tmps.getD u undef, tmps.getD v undef, tmps.getD x undef]) w := by
  simp [results, h]
set_option maxRecDepth 100000 in
set_option maxHeartbeats 8000000 in
theorem choose_e1 (c : Ca) (fv dv : Value) (sc : Option Addr) (m kc : Nat) (E : Int) (w : World) (HCK : ∀ W, Below w.heap.size w W → Calls Tryz.prog 23 #[caV c fv dv (.slice sc m kc)] W (Ret W (.int .i64 E))) (v : Value) (hE : E ≠ 0) :
    Calls Tryz.prog 31 #[caV c fv dv (.slice sc m kc), v] w (Ret w (.tuple #[.int .i64 0, .slice none 0 0, .bool false, .int .i64 E])) := by
  have HG := Lib.hid HCK
  have h3 := bne_ne hE
  clear HCK hE
  have hJ := On.new w (caC c fv dv (.slice sc m kc)).toList 34
  obtain ⟨⟨nm, kind, axis, ⟨ax, ay, az⟩, lo, fhi⟩, ⟨xk, disc, tol, mat⟩, b0⟩ := c
  simp only at hJ
  go_enter Tryz.func31, Tryz.ntmps31
  go_upto_region 1 with fail
  generalize hW0 : w.alloc (.cells #[.string ⟨nm.toArray⟩, .int .i64 kind, .int .i64 axis, .int .i64 ax, .int .i64 ay, .int .i64 az, .int .i64 lo, .int .i64 fhi, fv, .int .i64 xk, .bool disc, .int .i64 tol, .int .i64 mat, dv, .slice sc m kc, .int .i64 b0] 34) = W0 at *
  clear hW0
  obtain ⟨c0, c1, c2, c3, c4, c5, c6, c7, c8, c9, ca, cb, cc, cd, ce, cf⟩ := c16row hJ.a
  go_wp2_with fail
  ((with_reducible refine (HG.out _ hJ.w).mono ?_); rintro e w1 ⟨rfl, hb1⟩)
  have hJ1 := hJ.later hb1
  have hw1 := hJ1.w
  clear c0 c1 c2 c3 c4 c5 c6 c7 c8 c9 ca cb cc cd ce cf hb1 hJ HG
  go_wp2
  ((try simp only [Exit.inBlock, Exit.then]); refine bodyPost_ret (results_tmp4 rfl _ _ _) rfl ?_)
  exact ⟨rfl, hw1⟩
set_option maxRecDepth 100000 in
set_option maxHeartbeats 8000000 in
theorem choose_e2 (c : Ca) (fv dv : Value) (sc : Option Addr) (m kc : Nat) (w : World) (HCK : ∀ W, Below w.heap.size w W → Calls Tryz.prog 23 #[caV c fv dv (.slice sc m kc)] W (Ret W (.int .i64 0))) (sa : Option Addr) (n cap : Nat) (hn : 256 < n) :
    Calls Tryz.prog 31 #[caV c fv dv (.slice sc m kc), .slice sa n cap] w (Ret w (.tuple #[.int .i64 0, .slice none 0 0, .bool false, .int .i64 5])) := by
  have HG := Lib.hid HCK
  have h3 : (256 : Int) < (n : Int) := by omega
  clear HCK hn
  have hJ := On.new w (caC c fv dv (.slice sc m kc)).toList 34
  obtain ⟨⟨nm, kind, axis, ⟨ax, ay, az⟩, lo, fhi⟩, ⟨xk, disc, tol, mat⟩, b0⟩ := c
  simp only at hJ
  go_enter Tryz.func31, Tryz.ntmps31
  go_upto_region 1 with fail
  generalize hW0 : w.alloc (.cells #[.string ⟨nm.toArray⟩, .int .i64 kind, .int .i64 axis, .int .i64 ax, .int .i64 ay, .int .i64 az, .int .i64 lo, .int .i64 fhi, fv, .int .i64 xk, .bool disc, .int .i64 tol, .int .i64 mat, dv, .slice sc m kc, .int .i64 b0] 34) = W0 at *
  clear hW0
  obtain ⟨c0, c1, c2, c3, c4, c5, c6, c7, c8, c9, ca, cb, cc, cd, ce, cf⟩ := c16row hJ.a
  go_wp2_with fail
  ((with_reducible refine (HG.out _ hJ.w).mono ?_); rintro e w1 ⟨rfl, hb1⟩)
  have hJ1 := hJ.later hb1
  have hw1 := hJ1.w
  clear c0 c1 c2 c3 c4 c5 c6 c7 c8 c9 ca cb cc cd ce cf hb1 hJ HG
  go_wp2
  ((try simp only [Exit.inBlock, Exit.then]); refine bodyPost_ret (results_tmp4 rfl _ _ _) rfl ?_)
  exact ⟨rfl, hw1⟩
set_option maxRecDepth 100000 in
set_option maxHeartbeats 8000000 in
theorem choose_e3 (c : Ca) (fv dv : Value) (sc : Option Addr) (m kc : Nat) (w : World) (HCK : ∀ W, Below w.heap.size w W → Calls Tryz.prog 23 #[caV c fv dv (.slice sc m kc)] W (Ret W (.int .i64 0))) (v : Value) (ts : List TT) (T : SlX w v ts) (hn : ts.length ≤ 256)
    (HTC : ∀ i, i < ts.length → ∀ W, Below w.heap.size w W → Calls Tryz.prog 62 #[ttV (tA ts i)] W (Ret W (.int .i64 (ttE (tA ts i))))) (hX : chE 0 m ts ≠ 0) :
    Calls Tryz.prog 31 #[caV c fv dv (.slice sc m kc), v] w (Ret w (.tuple #[.int .i64 0, .slice none 0 0, .bool false, .int .i64 (chE 0 m ts)])) := by
  have HG := Lib.hid HCK
  have HT := Lib.hid HTC
  have HXA := Lib.hid (fun (i : Nat) (hi : i < ts.length) (h1 : ∀ k, k < i → ttE (tA ts k) = 0) (h2 : ttE (tA ts i) ≠ 0) => show chE 0 m ts = ttE (tA ts i) from by
    unfold chE
    rw [if_neg (by simp), if_neg (by omega), tsE_at hi h1 h2, if_pos h2])
  have HXB := Lib.hid (fun (h1 : ∀ k, k < ts.length → ttE (tA ts k) = 0) => show (ts.length = 0 ∨ m = 0) ∧ chE 0 m ts = 13 from by
    unfold chE at hX ⊢
    rw [if_neg (by simp), if_neg (by omega), tsE_end h1, if_neg (by simp)] at hX ⊢
    by_cases q : ts.length = 0 ∨ m = 0
    · exact ⟨q, if_pos q⟩
    · rw [if_neg q] at hX; exact absurd rfl hX)
  obtain ⟨sa, cap, rfl, h1⟩ := T.ttF
  have H1 := Lib.hid h1
  clear T h1 HCK HTC
  clear hX
  generalize chE 0 m ts = XE at *
  generalize tA ts = tF at *
  generalize ts.length = n at *
  have z1 : ¬ (256 : Int) < (n : Int) := by omega
  have hJ := On.new w (caC c fv dv (.slice sc m kc)).toList 34
  obtain ⟨⟨nm, kind, axis, ⟨ax, ay, az⟩, lo, fhi⟩, ⟨xk, disc, tol, mat⟩, b0⟩ := c
  simp only at hJ
  go_enter Tryz.func31, Tryz.ntmps31
  go_upto_region 1 with fail
  generalize hW0 : w.alloc (.cells #[.string ⟨nm.toArray⟩, .int .i64 kind, .int .i64 axis, .int .i64 ax, .int .i64 ay, .int .i64 az, .int .i64 lo, .int .i64 fhi, fv, .int .i64 xk, .bool disc, .int .i64 tol, .int .i64 mat, dv, .slice sc m kc, .int .i64 b0] 34) = W0 at *
  clear hW0
  obtain ⟨c0, c1, c2, c3, c4, c5, c6, c7, c8, c9, ca, cb, cc, cd, ce, cf⟩ := c16row hJ.a
  go_wp2_with fail
  ((with_reducible refine (HG.out _ hJ.w).mono ?_); rintro e w1 ⟨rfl, hb1⟩)
  have hJ1 := hJ.later hb1
  have hw1 := hJ1.w
  clear c0 c1 c2 c3 c4 c5 c6 c7 c8 c9 ca cb cc cd ce cf hb1 hJ HG
  have HJ1 := Lib.hid hJ1
  clear hJ1
  go_wp2_with fail
  go_loopw [27] (fun si wr => ∃ i : Nat, si = .int .i64 (i : Int) ∧ i ≤ n ∧ Hid (∀ k, k < i → ttE (tF k) = 0) ∧ Hid (Below w1.heap.size w1 wr)) (fun si _ => n - (intOf si).toNat)
  case atStart => exact ⟨0, rfl, Nat.zero_le _, fun k hk => absurd hk (Nat.not_lt_zero _), Below.refl _ _⟩
  case round =>
    obtain ⟨i, rfl, hi, hK, hB⟩ := hrel
    by_cases hlt : i < n
    · obtain ⟨b, off, rfl, f1⟩ := H1.out i hlt
      obtain ⟨k0, k1, k2, k3, k4, k5⟩ := f1 _ (hw1.nx hB.out)
      have HC1 := Lib.hid (HT.out i hlt)
      have HKN := Lib.hid (fun (e : ttE (tF i) = 0) (k : Nat) (hk : k < i + 1) => show ttE (tF k) = 0 from by
        by_cases q : k = i
        · subst q; exact e
        · exact hK.out k (by omega))
      have HX1 := Lib.hid (fun (e : ttE (tF i) ≠ 0) => HXA.out i hlt hK.out e)
      clear f1 H1 HT hK
      generalize ttE (tF i) = E at *
      generalize tF i = t at *
      obtain ⟨ta, tb, tc, td, te, tf⟩ := t
      simp only at k0 k1 k2 k3 k4 k5 HC1
      have j0 : (i : Int) < (n : Int) := by omega
      have j1 : (0 : Int) ≤ (i : Int) := by omega
      have hal := below_al wr (.cells #[.string ⟨ta.toArray⟩, .string ⟨tb.toArray⟩, .string ⟨tc.toArray⟩, .string ⟨td.toArray⟩, .string ⟨te.toArray⟩, .string ⟨tf.toArray⟩] 38)
      have HB1 := Lib.hid (hB.out.nx hal)
      have hnew := heap_alloc_new wr (.cells #[.string ⟨ta.toArray⟩, .string ⟨tb.toArray⟩, .string ⟨tc.toArray⟩, .string ⟨td.toArray⟩, .string ⟨te.toArray⟩, .string ⟨tf.toArray⟩] 38)
      go_upto_region 9 with fail
      generalize wr.alloc (.cells #[.string ⟨ta.toArray⟩, .string ⟨tb.toArray⟩, .string ⟨tc.toArray⟩, .string ⟨td.toArray⟩, .string ⟨te.toArray⟩, .string ⟨tf.toArray⟩] 38) = W2 at *
      obtain ⟨p0, p1, p2, p3, p4, p5⟩ := c6row hnew
      go_wp2_with fail
      ((with_reducible refine (HC1.out _ (hw1.nx HB1.out)).mono ?_); rintro e w2 ⟨rfl, hb2⟩)
      have HB2 := Lib.hid (HB1.out.nx hb2)
      clear hb2 hal k0 k1 k2 k3 k4 k5 p0 p1 p2 p3 p4 p5 hnew hB HB1 HC1
      by_cases hE : E = 0
      · subst hE
        have HK2 := Lib.hid (HKN.out rfl)
        clear HKN
        go_wp2
        go_roundw
        case rel => exact ⟨i + 1, by go_num, by omega, HK2.out, HB2.out⟩
        case measure => simp [intOf]; omega
      · have h3 := bne_ne hE
        obtain rfl : XE = E := HX1.out hE
        have hw := hw1.nx HB2.out
        clear HKN HX1 HJ1 hE HB2
        go_wp2
        ((try simp only [Exit.inBlock, Exit.then]); refine bodyPost_ret (results_tmp4 rfl _ _ _) rfl ?_)
        exact ⟨rfl, hw⟩
    · obtain rfl : i = n := by omega
      obtain ⟨hz, rfl⟩ := HXB.out hK.out
      have hw := hw1.nx hB.out
      clear HXA HXB hK HT H1
      obtain ⟨c0, c1, c2, c3, c4, c5, c6, c7, c8, c9, ca, cb, cc, cd, ce, cf⟩ := c16row (HJ1.out.later hB.out).a
      clear c0 c1 c2 c3 c4 c5 c6 c7 c8 c9 ca cb cc cd cf hB HJ1
      by_cases hi0 : i = 0
      · have z2 : ((i : Int) == 0) = true := by rw [hi0]; rfl
        clear hz hi0
        go_wp2
        ((try simp only [Exit.inBlock, Exit.then]); refine bodyPost_ret (results_tmp4 rfl _ _ _) rfl ?_)
        exact ⟨rfl, hw⟩
      · have z2 : ((i : Int) == 0) = false := beq_eq_false_iff_ne.2 (by omega)
        have z3 : ((m : Int) == 0) = true := beq_iff_eq.2 (by omega)
        clear hz hi0
        go_wp2
        ((try simp only [Exit.inBlock, Exit.then]); refine bodyPost_ret (results_tmp4 rfl _ _ _) rfl ?_)
        exact ⟨rfl, hw⟩
set_option maxRecDepth 100000 in
set_option maxHeartbeats 8000000 in
theorem choose_ok (c : Ca) (fv dv : Value) (sc : Option Addr) (m kc : Nat) (w : World) (HCK : ∀ W, Below w.heap.size w W → Calls Tryz.prog 23 #[caV c fv dv (.slice sc m kc)] W (Ret W (.int .i64 0))) (v : Value) (ts : List TT) (T : SlX w v ts) (hn : ts.length ≤ 256)
    (HTC : ∀ i, i < ts.length → ∀ W, Below w.heap.size w W → Calls Tryz.prog 62 #[ttV (tA ts i)] W (Ret W (.int .i64 (ttE (tA ts i))))) (o : Nat → Int) (hts : tsE ts = 0) (hp : 0 < ts.length) (hm : 0 < m)
    (HOU : ∀ i, i < ts.length → ∀ W, Below w.heap.size w W → Calls Tryz.prog 67 #[caV c fv dv (.slice sc m kc), ttV (tA ts i)] W (Ret W (.tuple #[.int .i64 (o i), .int .i64 0]))) :
    Calls Tryz.prog 31 #[caV c fv dv (.slice sc m kc), v] w (ChR w o ts.length) := by
  have HG := Lib.hid HCK
  have HT := Lib.hid HTC
  have HO := Lib.hid HOU
  have HXC := Lib.hid (fun (i : Nat) (hi : i < ts.length) => show ttE (tA ts i) = 0 from tsE_zero.1 hts _ (by rw [tA_get hi]; exact List.getElem_mem hi))
  have HS := Lib.hid (fun (i : Nat) (hi : i < ts.length) h h2 => ch_some (o := o) (n := ts.length) (i := i) hi h h2)
  have HN := Lib.hid (fun h => ch_none (o := o) (n := ts.length) h)
  have HTS := Lib.hid (fun (i k : Nat) (h : o i = (k : Int)) => chT_succ o i h)
  have HTL := Lib.hid (fun i => chT_len o i)
  have HT0 := Lib.hid (show chT o 0 = [] from rfl)
  obtain ⟨sa, cap, rfl, h1⟩ := T.ttF
  have H1 := Lib.hid h1
  clear T h1 HCK HTC
  clear hts HOU
  generalize tA ts = tF at *
  generalize ts.length = n at *
  have z1 : ¬ (256 : Int) < (n : Int) := by omega
  have hJ := On.new w (caC c fv dv (.slice sc m kc)).toList 34
  obtain ⟨⟨nm, kind, axis, ⟨ax, ay, az⟩, lo, fhi⟩, ⟨xk, disc, tol, mat⟩, b0⟩ := c
  simp only at hJ
  go_enter Tryz.func31, Tryz.ntmps31
  go_upto_region 1 with fail
  generalize hW0 : w.alloc (.cells #[.string ⟨nm.toArray⟩, .int .i64 kind, .int .i64 axis, .int .i64 ax, .int .i64 ay, .int .i64 az, .int .i64 lo, .int .i64 fhi, fv, .int .i64 xk, .bool disc, .int .i64 tol, .int .i64 mat, dv, .slice sc m kc, .int .i64 b0] 34) = W0 at *
  clear hW0
  obtain ⟨c0, c1, c2, c3, c4, c5, c6, c7, c8, c9, ca, cb, cc, cd, ce, cf⟩ := c16row hJ.a
  go_wp2_with fail
  ((with_reducible refine (HG.out _ hJ.w).mono ?_); rintro e w1 ⟨rfl, hb1⟩)
  have hJ1 := hJ.later hb1
  have hw1 := hJ1.w
  clear c0 c1 c2 c3 c4 c5 c6 c7 c8 c9 ca cb cc cd ce cf hb1 hJ HG
  have HJ1 := Lib.hid hJ1
  clear hJ1
  go_wp2_with fail
  go_loopw [27] (fun si wr => ∃ i : Nat, si = .int .i64 (i : Int) ∧ i ≤ n ∧ Hid (∀ k, k < i → ttE (tF k) = 0) ∧ Hid (Below w1.heap.size w1 wr)) (fun si _ => n - (intOf si).toNat)
  case atStart => exact ⟨0, rfl, Nat.zero_le _, fun k hk => absurd hk (Nat.not_lt_zero _), Below.refl _ _⟩
  case round =>
    obtain ⟨i, rfl, hi, hK, hB⟩ := hrel
    by_cases hlt : i < n
    · obtain ⟨b, off, rfl, f1⟩ := H1.out i hlt
      obtain ⟨k0, k1, k2, k3, k4, k5⟩ := f1 _ (hw1.nx hB.out)
      have HC1 := Lib.hid (HT.out i hlt)
      have HKN := Lib.hid (fun (e : ttE (tF i) = 0) (k : Nat) (hk : k < i + 1) => show ttE (tF k) = 0 from by
        by_cases q : k = i
        · subst q; exact e
        · exact hK.out k (by omega))
      have HX1 := Lib.hid (HXC.out i hlt)
      clear f1 H1 HT hK
      generalize ttE (tF i) = E at *
      generalize tF i = t at *
      obtain ⟨ta, tb, tc, td, te, tf⟩ := t
      simp only at k0 k1 k2 k3 k4 k5 HC1
      have j0 : (i : Int) < (n : Int) := by omega
      have j1 : (0 : Int) ≤ (i : Int) := by omega
      have hal := below_al wr (.cells #[.string ⟨ta.toArray⟩, .string ⟨tb.toArray⟩, .string ⟨tc.toArray⟩, .string ⟨td.toArray⟩, .string ⟨te.toArray⟩, .string ⟨tf.toArray⟩] 38)
      have HB1 := Lib.hid (hB.out.nx hal)
      have hnew := heap_alloc_new wr (.cells #[.string ⟨ta.toArray⟩, .string ⟨tb.toArray⟩, .string ⟨tc.toArray⟩, .string ⟨td.toArray⟩, .string ⟨te.toArray⟩, .string ⟨tf.toArray⟩] 38)
      go_upto_region 9 with fail
      generalize wr.alloc (.cells #[.string ⟨ta.toArray⟩, .string ⟨tb.toArray⟩, .string ⟨tc.toArray⟩, .string ⟨td.toArray⟩, .string ⟨te.toArray⟩, .string ⟨tf.toArray⟩] 38) = W2 at *
      obtain ⟨p0, p1, p2, p3, p4, p5⟩ := c6row hnew
      go_wp2_with fail
      ((with_reducible refine (HC1.out _ (hw1.nx HB1.out)).mono ?_); rintro e w2 ⟨rfl, hb2⟩)
      have HB2 := Lib.hid (HB1.out.nx hb2)
      clear hb2 hal k0 k1 k2 k3 k4 k5 p0 p1 p2 p3 p4 p5 hnew hB HB1 HC1
      by_cases hE : E = 0
      · subst hE
        have HK2 := Lib.hid (HKN.out rfl)
        clear HKN
        go_wp2
        go_roundw
        case rel => exact ⟨i + 1, by go_num, by omega, HK2.out, HB2.out⟩
        case measure => simp [intOf]; omega
      · exact absurd HX1.out hE
    · obtain rfl : n = i := by omega
      have HJ2 := Lib.hid (HJ1.out.later hB.out)
      obtain ⟨c0, c1, c2, c3, c4, c5, c6, c7, c8, c9, ca, cb, cc, cd, ce, cf⟩ := c16row HJ2.out.a
      have z2 : ((n : Int) == 0) = false := beq_eq_false_iff_ne.2 (by omega)
      have z3 : ((m : Int) == 0) = false := beq_eq_false_iff_ne.2 (by omega)
      clear c0 c1 c2 c3 c4 c5 c6 c7 c8 c9 ca cb cc cd cf hB HJ1 hK HXC HT hw1
      generalize wr = w2 at *
      go_wp2_with fail
      clear ce z2 z3
      go_loopw [12, 48] (fun sv si wr => ∃ i : Nat, si = .int .i64 (i : Int) ∧ i ≤ n ∧ Hid (∀ k, k < i → 0 ≤ o k) ∧ Hid (OwX 3 wr w2.heap.size sv (chT o i)) ∧ Hid (Below w2.heap.size w2 wr)) (fun _ si _ => n - (intOf si).toNat)
      case atStart => exact ⟨0, rfl, Nat.zero_le _, fun k hk => absurd hk (Nat.not_lt_zero _), by rw [HT0.out]; exact OwX.nil _ _ _, Below.refl _ _⟩
      case round =>
      obtain ⟨i, rfl, hi, hK, hO, hB⟩ := hrel
      by_cases hlt : i < n
      · obtain ⟨b, off, rfl, f1⟩ := H1.out i hlt
        obtain ⟨k0, k1, k2, k3, k4, k5⟩ := f1 _ (HJ2.out.w.nx hB.out)
        have HO1 := Lib.hid (HO.out i hlt)
        have HSI := Lib.hid (fun (e : o i < 0) => HS.out i hlt hK.out e)
        have HKN := Lib.hid (fun (e : 0 ≤ o i) (k : Nat) (hk : k < i + 1) => show 0 ≤ o k from by
          by_cases q : k = i
          · subst q; exact e
          · exact hK.out k (by omega))
        clear f1 H1 HO hK HS HN
        generalize tF i = t at *
        obtain ⟨ta, tb, tc, td, te, tf⟩ := t
        simp only at k0 k1 k2 k3 k4 k5 HO1
        have j0 : (i : Int) < (n : Int) := by omega
        have j1 : (0 : Int) ≤ (i : Int) := by omega
        have hal := below_al wr (.cells #[.string ⟨ta.toArray⟩, .string ⟨tb.toArray⟩, .string ⟨tc.toArray⟩, .string ⟨td.toArray⟩, .string ⟨te.toArray⟩, .string ⟨tf.toArray⟩] 38)
        have HB1 := Lib.hid (hB.out.nx hal)
        have hnew := heap_alloc_new wr (.cells #[.string ⟨ta.toArray⟩, .string ⟨tb.toArray⟩, .string ⟨tc.toArray⟩, .string ⟨td.toArray⟩, .string ⟨te.toArray⟩, .string ⟨tf.toArray⟩] 38)
        have hO1 := Lib.hid (hO.out.later hal)
        go_upto_region 19 with fail
        generalize wr.alloc (.cells #[.string ⟨ta.toArray⟩, .string ⟨tb.toArray⟩, .string ⟨tc.toArray⟩, .string ⟨td.toArray⟩, .string ⟨te.toArray⟩, .string ⟨tf.toArray⟩] 38) = W2 at *
        obtain ⟨p0, p1, p2, p3, p4, p5⟩ := c6row hnew
        obtain ⟨c0, c1, c2, c3, c4, c5, c6, c7, c8, c9, ca, cb, cc, cd, ce, cf⟩ := c16row (HJ2.out.later HB1.out).a
        go_wp2_with fail
        ((with_reducible refine (HO1.out _ (HJ2.out.w.nx HB1.out)).mono ?_); rintro e w3 ⟨rfl, hb3⟩)
        have HB3 := Lib.hid (HB1.out.nx hb3)
        have HO3 := Lib.hid (hO1.out.later hb3)
        clear hb3 hal k0 k1 k2 k3 k4 k5 p0 p1 p2 p3 p4 p5 hnew hB HB1 HO1 hO hO1 c0 c1 c2 c3 c4 c5 c6 c7 c8 c9 ca cb cc cd ce cf
        by_cases hneg : o i < 0
        · obtain ⟨e1, e2, e3⟩ := HSI.out hneg
          have HE := Lib.hid (show ChR w o n (.returned (.tuple #[.int .i64 (i : Int), .slice none 0 0, .bool true, .int .i64 0])) w3 from ⟨_, by rw [e1, e3], by rw [e2]; exact Or.inl ⟨none, 0, rfl, rfl⟩, HJ2.out.w.nx HB3.out⟩)
          clear HKN HSI HTS HTL HT0 HJ2 HB3 HO3 e1 e2 e3
          generalize o i = oi at *
          go_wp2
          ((try simp only [Exit.inBlock, Exit.then]); refine bodyPost_ret (results_tmp4 rfl _ _ _) rfl ?_)
          exact HE.out
        · have HK2 := Lib.hid (HKN.out (Int.not_lt.1 hneg))
          obtain ⟨k, hk⟩ : ∃ k : Nat, o i = (k : Int) := ⟨(o i).toNat, by omega⟩
          have hkn : ¬ (k : Int) < 0 := by omega
          rw [hk]
          clear HKN HSI hneg
          have hal := below_al w3 (.cells #[.int .i64 (k : Int)] 3)
          have HB4 := Lib.hid (HB3.out.nx hal)
          have HO4 := Lib.hid (HO3.out.later hal)
          have HC5 := Lib.hid (show (w3.alloc (.cells #[.int .i64 (k : Int)] 3)).cell? ⟨w3.heap.size, 0, none⟩ = some (.int .i64 (k : Int)) from c1row (heap_alloc_new w3 _))
          clear hal HO3
          go_wp2_with (at_builtin; refine wpList_app_row rfl _ _ 58 3 rfl Tryz.underlying58 (.int .i64 0) 8 (by decide) (by kernel_rfl) rfl w2.heap.size _ (chT o i) rfl HO4.out w3.heap.size k rfl (fun j hj => by obtain rfl : j = 0 := (by simp [Row.k] at hj; exact hj); exact HC5.out) (by have := HTL.out i; omega) HB4.out.size ?_)
          intro v' w6 hO6 hb6
          rw [← HTS.out i k hk] at hO6
          have HO6 := Lib.hid hO6
          have HB6 := Lib.hid (HB4.out.trans hb6)
          clear hO6 hb6 HO4 HB4 HC5 HB3
          go_wp2
          go_roundw
          case rel => exact ⟨i + 1, by go_num, by omega, HK2.out, HO6.out, HB6.out⟩
          case measure => simp [intOf]; omega
      · obtain rfl : i = n := by omega
        obtain ⟨e1, e2, e3⟩ := HN.out hK.out
        have HE := Lib.hid (fun v (h : SlX wr v (chT o i)) => show ChR w o i (.returned (.tuple #[.int .i64 0, v, .bool false, .int .i64 0])) wr from ⟨v, by rw [e1, e3], by rw [e2]; exact h, HJ2.out.w.nx hB.out⟩)
        have HSL := Lib.hid hO.out.sl
        clear HTS HTL HT0 HJ2 hB hO e1 e2 e3 HS HN HO H1 hK
        go_wp2
        ((try simp only [Exit.inBlock, Exit.then]); refine bodyPost_ret (results_tmp4 rfl _ _ _) rfl ?_)
        exact HE.out _ HSL.out
end Go.Proofs.Wk
/- POSITION: choosing, in the reference. -/
namespace Go.Proofs.Wk
open Go.RowKit Mt Po

set_option maxRecDepth 100000 in
set_option maxHeartbeats 8000000 in
theorem rchoose_e1 (c : Ca) (fv dv : Value) (sc : Option Addr) (m kc : Nat) (E : Int) (w : World) (HCK : ∀ W, Below w.heap.size w W → Calls Tryz.prog 24 #[caV c fv dv (.slice sc m kc)] W (Ret W (.int .i64 E))) (v : Value) (hE : E ≠ 0) :
    Calls Tryz.prog 36 #[caV c fv dv (.slice sc m kc), v] w (Ret w (.tuple #[.int .i64 0, .slice none 0 0, .bool false, .int .i64 E])) := by
  have HG := Lib.hid HCK
  have h3 := bne_ne hE
  clear HCK hE
  have hJ := On.new w (caC c fv dv (.slice sc m kc)).toList 40
  obtain ⟨⟨nm, kind, axis, ⟨ax, ay, az⟩, lo, fhi⟩, ⟨xk, disc, tol, mat⟩, b0⟩ := c
  simp only at hJ
  go_enter Tryz.func36, Tryz.ntmps36
  go_upto_region 1 with fail
  generalize hW0 : w.alloc (.cells #[.string ⟨nm.toArray⟩, .int .i64 kind, .int .i64 axis, .int .i64 ax, .int .i64 ay, .int .i64 az, .int .i64 lo, .int .i64 fhi, fv, .int .i64 xk, .bool disc, .int .i64 tol, .int .i64 mat, dv, .slice sc m kc, .int .i64 b0] 40) = W0 at *
  clear hW0
  obtain ⟨c0, c1, c2, c3, c4, c5, c6, c7, c8, c9, ca, cb, cc, cd, ce, cf⟩ := c16row hJ.a
  go_wp2_with fail
  ((with_reducible refine (HG.out _ hJ.w).mono ?_); rintro e w1 ⟨rfl, hb1⟩)
  have hJ1 := hJ.later hb1
  have hw1 := hJ1.w
  clear c0 c1 c2 c3 c4 c5 c6 c7 c8 c9 ca cb cc cd ce cf hb1 hJ HG
  go_wp2
  ((try simp only [Exit.inBlock, Exit.then]); refine bodyPost_ret (results_tmp4 rfl _ _ _) rfl ?_)
  exact ⟨rfl, hw1⟩
set_option maxRecDepth 100000 in
set_option maxHeartbeats 8000000 in
theorem rchoose_e2 (c : Ca) (fv dv : Value) (sc : Option Addr) (m kc : Nat) (w : World) (HCK : ∀ W, Below w.heap.size w W → Calls Tryz.prog 24 #[caV c fv dv (.slice sc m kc)] W (Ret W (.int .i64 0))) (sa : Option Addr) (n cap : Nat) (hn : 256 < n) :
    Calls Tryz.prog 36 #[caV c fv dv (.slice sc m kc), .slice sa n cap] w (Ret w (.tuple #[.int .i64 0, .slice none 0 0, .bool false, .int .i64 5])) := by
  have HG := Lib.hid HCK
  have h3 : (256 : Int) < (n : Int) := by omega
  clear HCK hn
  have hJ := On.new w (caC c fv dv (.slice sc m kc)).toList 40
  obtain ⟨⟨nm, kind, axis, ⟨ax, ay, az⟩, lo, fhi⟩, ⟨xk, disc, tol, mat⟩, b0⟩ := c
  simp only at hJ
  go_enter Tryz.func36, Tryz.ntmps36
  go_upto_region 1 with fail
  generalize hW0 : w.alloc (.cells #[.string ⟨nm.toArray⟩, .int .i64 kind, .int .i64 axis, .int .i64 ax, .int .i64 ay, .int .i64 az, .int .i64 lo, .int .i64 fhi, fv, .int .i64 xk, .bool disc, .int .i64 tol, .int .i64 mat, dv, .slice sc m kc, .int .i64 b0] 40) = W0 at *
  clear hW0
  obtain ⟨c0, c1, c2, c3, c4, c5, c6, c7, c8, c9, ca, cb, cc, cd, ce, cf⟩ := c16row hJ.a
  go_wp2_with fail
  ((with_reducible refine (HG.out _ hJ.w).mono ?_); rintro e w1 ⟨rfl, hb1⟩)
  have hJ1 := hJ.later hb1
  have hw1 := hJ1.w
  clear c0 c1 c2 c3 c4 c5 c6 c7 c8 c9 ca cb cc cd ce cf hb1 hJ HG
  go_wp2
  ((try simp only [Exit.inBlock, Exit.then]); refine bodyPost_ret (results_tmp4 rfl _ _ _) rfl ?_)
  exact ⟨rfl, hw1⟩
set_option maxRecDepth 100000 in
set_option maxHeartbeats 8000000 in
theorem rchoose_e3 (c : Ca) (fv dv : Value) (sc : Option Addr) (m kc : Nat) (w : World) (HCK : ∀ W, Below w.heap.size w W → Calls Tryz.prog 24 #[caV c fv dv (.slice sc m kc)] W (Ret W (.int .i64 0))) (v : Value) (ts : List TT) (T : SlX w v ts) (hn : ts.length ≤ 256)
    (HTC : ∀ i, i < ts.length → ∀ W, Below w.heap.size w W → Calls Tryz.prog 52 #[ttV (tA ts i)] W (Ret W (.int .i64 (ttE (tA ts i))))) (hX : chE 0 m ts ≠ 0) :
    Calls Tryz.prog 36 #[caV c fv dv (.slice sc m kc), v] w (Ret w (.tuple #[.int .i64 0, .slice none 0 0, .bool false, .int .i64 (chE 0 m ts)])) := by
  have HG := Lib.hid HCK
  have HT := Lib.hid HTC
  have HXA := Lib.hid (fun (i : Nat) (hi : i < ts.length) (h1 : ∀ k, k < i → ttE (tA ts k) = 0) (h2 : ttE (tA ts i) ≠ 0) => show chE 0 m ts = ttE (tA ts i) from by
    unfold chE
    rw [if_neg (by simp), if_neg (by omega), tsE_at hi h1 h2, if_pos h2])
  have HXB := Lib.hid (fun (h1 : ∀ k, k < ts.length → ttE (tA ts k) = 0) => show (ts.length = 0 ∨ m = 0) ∧ chE 0 m ts = 13 from by
    unfold chE at hX ⊢
    rw [if_neg (by simp), if_neg (by omega), tsE_end h1, if_neg (by simp)] at hX ⊢
    by_cases q : ts.length = 0 ∨ m = 0
    · exact ⟨q, if_pos q⟩
    · rw [if_neg q] at hX; exact absurd rfl hX)
  obtain ⟨sa, cap, rfl, h1⟩ := T.ttF
  have H1 := Lib.hid h1
  clear T h1 HCK HTC
  clear hX
  generalize chE 0 m ts = XE at *
  generalize tA ts = tF at *
  generalize ts.length = n at *
  have z1 : ¬ (256 : Int) < (n : Int) := by omega
  have hJ := On.new w (caC c fv dv (.slice sc m kc)).toList 40
  obtain ⟨⟨nm, kind, axis, ⟨ax, ay, az⟩, lo, fhi⟩, ⟨xk, disc, tol, mat⟩, b0⟩ := c
  simp only at hJ
  go_enter Tryz.func36, Tryz.ntmps36
  go_upto_region 1 with fail
  generalize hW0 : w.alloc (.cells #[.string ⟨nm.toArray⟩, .int .i64 kind, .int .i64 axis, .int .i64 ax, .int .i64 ay, .int .i64 az, .int .i64 lo, .int .i64 fhi, fv, .int .i64 xk, .bool disc, .int .i64 tol, .int .i64 mat, dv, .slice sc m kc, .int .i64 b0] 40) = W0 at *
  clear hW0
  obtain ⟨c0, c1, c2, c3, c4, c5, c6, c7, c8, c9, ca, cb, cc, cd, ce, cf⟩ := c16row hJ.a
  go_wp2_with fail
  ((with_reducible refine (HG.out _ hJ.w).mono ?_); rintro e w1 ⟨rfl, hb1⟩)
  have hJ1 := hJ.later hb1
  have hw1 := hJ1.w
  clear c0 c1 c2 c3 c4 c5 c6 c7 c8 c9 ca cb cc cd ce cf hb1 hJ HG
  have HJ1 := Lib.hid hJ1
  clear hJ1
  go_wp2_with fail
  go_loopw [9] (fun si wr => ∃ i : Nat, si = .int .i64 (i : Int) ∧ i ≤ n ∧ Hid (∀ k, k < i → ttE (tF k) = 0) ∧ Hid (Below w1.heap.size w1 wr)) (fun si _ => n - (intOf si).toNat)
  case atStart => exact ⟨0, rfl, Nat.zero_le _, fun k hk => absurd hk (Nat.not_lt_zero _), Below.refl _ _⟩
  case round =>
    obtain ⟨i, rfl, hi, hK, hB⟩ := hrel
    by_cases hlt : i < n
    · obtain ⟨b, off, rfl, f1⟩ := H1.out i hlt
      obtain ⟨k0, k1, k2, k3, k4, k5⟩ := f1 _ (hw1.nx hB.out)
      have HC1 := Lib.hid (HT.out i hlt)
      have HKN := Lib.hid (fun (e : ttE (tF i) = 0) (k : Nat) (hk : k < i + 1) => show ttE (tF k) = 0 from by
        by_cases q : k = i
        · subst q; exact e
        · exact hK.out k (by omega))
      have HX1 := Lib.hid (fun (e : ttE (tF i) ≠ 0) => HXA.out i hlt hK.out e)
      clear f1 H1 HT hK
      generalize ttE (tF i) = E at *
      generalize tF i = t at *
      obtain ⟨ta, tb, tc, td, te, tf⟩ := t
      simp only at k0 k1 k2 k3 k4 k5 HC1
      have j0 : (i : Int) < (n : Int) := by omega
      have j1 : (0 : Int) ≤ (i : Int) := by omega
      go_wp2_with fail
      ((with_reducible refine (HC1.out _ (hw1.nx hB.out)).mono ?_); rintro e w2 ⟨rfl, hb2⟩)
      have HB2 := Lib.hid (hB.out.nx hb2)
      clear hb2 k0 k1 k2 k3 k4 k5 hB HC1
      by_cases hE : E = 0
      · subst hE
        have HK2 := Lib.hid (HKN.out rfl)
        clear HKN
        go_wp2
        go_roundw
        case rel => exact ⟨i + 1, by go_num, by omega, HK2.out, HB2.out⟩
        case measure => simp [intOf]; omega
      · have h3 := bne_ne hE
        obtain rfl : XE = E := HX1.out hE
        have hw := hw1.nx HB2.out
        clear HKN HX1 HJ1 hE HB2
        go_wp2
        ((try simp only [Exit.inBlock, Exit.then]); refine bodyPost_ret (results_tmp4 rfl _ _ _) rfl ?_)
        exact ⟨rfl, hw⟩
    · obtain rfl : i = n := by omega
      obtain ⟨hz, rfl⟩ := HXB.out hK.out
      have hw := hw1.nx hB.out
      clear HXA HXB hK HT H1
      obtain ⟨c0, c1, c2, c3, c4, c5, c6, c7, c8, c9, ca, cb, cc, cd, ce, cf⟩ := c16row (HJ1.out.later hB.out).a
      clear c0 c1 c2 c3 c4 c5 c6 c7 c8 c9 ca cb cc cd cf hB HJ1
      by_cases hi0 : i = 0
      · have z2 : ((i : Int) == 0) = true := by rw [hi0]; rfl
        clear hz hi0
        go_wp2
        ((try simp only [Exit.inBlock, Exit.then]); refine bodyPost_ret (results_tmp4 rfl _ _ _) rfl ?_)
        exact ⟨rfl, hw⟩
      · have z2 : ((i : Int) == 0) = false := beq_eq_false_iff_ne.2 (by omega)
        have z3 : ((m : Int) == 0) = true := beq_iff_eq.2 (by omega)
        clear hz hi0
        go_wp2
        ((try simp only [Exit.inBlock, Exit.then]); refine bodyPost_ret (results_tmp4 rfl _ _ _) rfl ?_)
        exact ⟨rfl, hw⟩
set_option maxRecDepth 100000 in
set_option maxHeartbeats 8000000 in
theorem rchoose_ok (c : Ca) (fv dv : Value) (sc : Option Addr) (m kc : Nat) (w : World) (HCK : ∀ W, Below w.heap.size w W → Calls Tryz.prog 24 #[caV c fv dv (.slice sc m kc)] W (Ret W (.int .i64 0))) (v : Value) (ts : List TT) (T : SlX w v ts) (hn : ts.length ≤ 256)
    (HTC : ∀ i, i < ts.length → ∀ W, Below w.heap.size w W → Calls Tryz.prog 52 #[ttV (tA ts i)] W (Ret W (.int .i64 (ttE (tA ts i))))) (o : Nat → Int) (hts : tsE ts = 0) (hp : 0 < ts.length) (hm : 0 < m)
    (HOU : ∀ i, i < ts.length → ∀ W, Below w.heap.size w W → Calls Tryz.prog 72 #[caV c fv dv (.slice sc m kc), ttV (tA ts i)] W (Ret W (.int .i64 (o i)))) :
    Calls Tryz.prog 36 #[caV c fv dv (.slice sc m kc), v] w (ChR w o ts.length) := by
  have HG := Lib.hid HCK
  have HT := Lib.hid HTC
  have HO := Lib.hid HOU
  have HXC := Lib.hid (fun (i : Nat) (hi : i < ts.length) => show ttE (tA ts i) = 0 from tsE_zero.1 hts _ (by rw [tA_get hi]; exact List.getElem_mem hi))
  have HS := Lib.hid (fun (i : Nat) (hi : i < ts.length) h h2 => ch_some (o := o) (n := ts.length) (i := i) hi h h2)
  have HN := Lib.hid (fun h => ch_none (o := o) (n := ts.length) h)
  have HTS := Lib.hid (fun (i k : Nat) (h : o i = (k : Int)) => chT_succ o i h)
  have HTL := Lib.hid (fun i => chT_len o i)
  have HT0 := Lib.hid (show chT o 0 = [] from rfl)
  obtain ⟨sa, cap, rfl, h1⟩ := T.ttF
  have H1 := Lib.hid h1
  clear T h1 HCK HTC
  clear hts HOU
  generalize tA ts = tF at *
  generalize ts.length = n at *
  have z1 : ¬ (256 : Int) < (n : Int) := by omega
  have hJ := On.new w (caC c fv dv (.slice sc m kc)).toList 40
  obtain ⟨⟨nm, kind, axis, ⟨ax, ay, az⟩, lo, fhi⟩, ⟨xk, disc, tol, mat⟩, b0⟩ := c
  simp only at hJ
  go_enter Tryz.func36, Tryz.ntmps36
  go_upto_region 1 with fail
  generalize hW0 : w.alloc (.cells #[.string ⟨nm.toArray⟩, .int .i64 kind, .int .i64 axis, .int .i64 ax, .int .i64 ay, .int .i64 az, .int .i64 lo, .int .i64 fhi, fv, .int .i64 xk, .bool disc, .int .i64 tol, .int .i64 mat, dv, .slice sc m kc, .int .i64 b0] 40) = W0 at *
  clear hW0
  obtain ⟨c0, c1, c2, c3, c4, c5, c6, c7, c8, c9, ca, cb, cc, cd, ce, cf⟩ := c16row hJ.a
  go_wp2_with fail
  ((with_reducible refine (HG.out _ hJ.w).mono ?_); rintro e w1 ⟨rfl, hb1⟩)
  have hJ1 := hJ.later hb1
  have hw1 := hJ1.w
  clear c0 c1 c2 c3 c4 c5 c6 c7 c8 c9 ca cb cc cd ce cf hb1 hJ HG
  have HJ1 := Lib.hid hJ1
  clear hJ1
  go_wp2_with fail
  go_loopw [9] (fun si wr => ∃ i : Nat, si = .int .i64 (i : Int) ∧ i ≤ n ∧ Hid (∀ k, k < i → ttE (tF k) = 0) ∧ Hid (Below w1.heap.size w1 wr)) (fun si _ => n - (intOf si).toNat)
  case atStart => exact ⟨0, rfl, Nat.zero_le _, fun k hk => absurd hk (Nat.not_lt_zero _), Below.refl _ _⟩
  case round =>
    obtain ⟨i, rfl, hi, hK, hB⟩ := hrel
    by_cases hlt : i < n
    · obtain ⟨b, off, rfl, f1⟩ := H1.out i hlt
      obtain ⟨k0, k1, k2, k3, k4, k5⟩ := f1 _ (hw1.nx hB.out)
      have HC1 := Lib.hid (HT.out i hlt)
      have HKN := Lib.hid (fun (e : ttE (tF i) = 0) (k : Nat) (hk : k < i + 1) => show ttE (tF k) = 0 from by
        by_cases q : k = i
        · subst q; exact e
        · exact hK.out k (by omega))
      have HX1 := Lib.hid (HXC.out i hlt)
      clear f1 H1 HT hK
      generalize ttE (tF i) = E at *
      generalize tF i = t at *
      obtain ⟨ta, tb, tc, td, te, tf⟩ := t
      simp only at k0 k1 k2 k3 k4 k5 HC1
      have j0 : (i : Int) < (n : Int) := by omega
      have j1 : (0 : Int) ≤ (i : Int) := by omega
      go_wp2_with fail
      ((with_reducible refine (HC1.out _ (hw1.nx hB.out)).mono ?_); rintro e w2 ⟨rfl, hb2⟩)
      have HB2 := Lib.hid (hB.out.nx hb2)
      clear hb2 k0 k1 k2 k3 k4 k5 hB HC1
      by_cases hE : E = 0
      · subst hE
        have HK2 := Lib.hid (HKN.out rfl)
        clear HKN
        go_wp2
        go_roundw
        case rel => exact ⟨i + 1, by go_num, by omega, HK2.out, HB2.out⟩
        case measure => simp [intOf]; omega
      · exact absurd HX1.out hE
    · obtain rfl : n = i := by omega
      have HJ2 := Lib.hid (HJ1.out.later hB.out)
      obtain ⟨c0, c1, c2, c3, c4, c5, c6, c7, c8, c9, ca, cb, cc, cd, ce, cf⟩ := c16row HJ2.out.a
      have z2 : ((n : Int) == 0) = false := beq_eq_false_iff_ne.2 (by omega)
      have z3 : ((m : Int) == 0) = false := beq_eq_false_iff_ne.2 (by omega)
      clear c0 c1 c2 c3 c4 c5 c6 c7 c8 c9 ca cb cc cd cf hB HJ1 hK HXC HT hw1
      generalize wr = w2 at *
      go_wp2_with fail
      clear ce z2 z3
      go_loopw [11, 12] (fun sv si wr => ∃ i : Nat, si = .int .i64 (i : Int) ∧ i ≤ n ∧ Hid (∀ k, k < i → 0 ≤ o k) ∧ Hid (OwX 3 wr w2.heap.size sv (chT o i)) ∧ Hid (Below w2.heap.size w2 wr)) (fun _ si _ => n - (intOf si).toNat)
      case atStart => exact ⟨0, rfl, Nat.zero_le _, fun k hk => absurd hk (Nat.not_lt_zero _), by rw [HT0.out]; exact OwX.nil _ _ _, Below.refl _ _⟩
      case round =>
      obtain ⟨i, rfl, hi, hK, hO, hB⟩ := hrel
      by_cases hlt : i < n
      · obtain ⟨b, off, rfl, f1⟩ := H1.out i hlt
        obtain ⟨k0, k1, k2, k3, k4, k5⟩ := f1 _ (HJ2.out.w.nx hB.out)
        have HO1 := Lib.hid (HO.out i hlt)
        have HSI := Lib.hid (fun (e : o i < 0) => HS.out i hlt hK.out e)
        have HKN := Lib.hid (fun (e : 0 ≤ o i) (k : Nat) (hk : k < i + 1) => show 0 ≤ o k from by
          by_cases q : k = i
          · subst q; exact e
          · exact hK.out k (by omega))
        have F1 := Lib.hid f1
        clear f1 H1 HO hK HS HN
        generalize tF i = t at *
        obtain ⟨ta, tb, tc, td, te, tf⟩ := t
        simp only at k0 k1 k2 k3 k4 k5 HO1 F1
        have j0 : (i : Int) < (n : Int) := by omega
        have j1 : (0 : Int) ≤ (i : Int) := by omega
        have HALL := Lib.hid (fun (W : World) (h : Below w2.heap.size w2 W) => by
          obtain ⟨c0, c1, c2, c3, c4, c5, c6, c7, c8, c9, ca, cb, cc, cd, ce, cf⟩ := c16row (HJ2.out.later h).a
          obtain ⟨k0, k1, k2, k3, k4, k5⟩ := F1.out _ (HJ2.out.w.nx h)
          exact (⟨c0, c1, c2, c3, c4, c5, c6, c7, c8, c9, ca, cb, cc, cd, ce, cf, k0, k1, k2, k3, k4, k5, h⟩ : W.cell? ⟨w.heap.size, 0, none⟩ = some (.string ⟨nm.toArray⟩) ∧ W.cell? ⟨w.heap.size, 1, none⟩ = some (.int .i64 kind) ∧ W.cell? ⟨w.heap.size, 2, none⟩ = some (.int .i64 axis) ∧ W.cell? ⟨w.heap.size, 3, none⟩ = some (.int .i64 ax) ∧ W.cell? ⟨w.heap.size, 4, none⟩ = some (.int .i64 ay) ∧ W.cell? ⟨w.heap.size, 5, none⟩ = some (.int .i64 az) ∧ W.cell? ⟨w.heap.size, 6, none⟩ = some (.int .i64 lo) ∧ W.cell? ⟨w.heap.size, 7, none⟩ = some (.int .i64 fhi) ∧ W.cell? ⟨w.heap.size, 8, none⟩ = some (fv) ∧ W.cell? ⟨w.heap.size, 9, none⟩ = some (.int .i64 xk) ∧ W.cell? ⟨w.heap.size, 10, none⟩ = some (.bool disc) ∧ W.cell? ⟨w.heap.size, 11, none⟩ = some (.int .i64 tol) ∧ W.cell? ⟨w.heap.size, 12, none⟩ = some (.int .i64 mat) ∧ W.cell? ⟨w.heap.size, 13, none⟩ = some (dv) ∧ W.cell? ⟨w.heap.size, 14, none⟩ = some (.slice sc m kc) ∧ W.cell? ⟨w.heap.size, 15, none⟩ = some (.int .i64 b0) ∧ W.cell? ⟨b, off + i * 6, none⟩ = some (.string ⟨ta.toArray⟩) ∧ W.cell? ⟨b, off + i * 6 + 1, none⟩ = some (.string ⟨tb.toArray⟩) ∧ W.cell? ⟨b, off + i * 6 + 2, none⟩ = some (.string ⟨tc.toArray⟩) ∧ W.cell? ⟨b, off + i * 6 + 3, none⟩ = some (.string ⟨td.toArray⟩) ∧ W.cell? ⟨b, off + i * 6 + 4, none⟩ = some (.string ⟨te.toArray⟩) ∧ W.cell? ⟨b, off + i * 6 + 5, none⟩ = some (.string ⟨tf.toArray⟩) ∧ Below w2.heap.size w2 W))
        have hOd := hO.out.later (Below.refl wr.heap.size wr).drew
        clear k0 k1 k2 k3 k4 k5
        go_upto_region 18 with fail
        go_region_held3 (fun W => W.cell? ⟨w.heap.size, 0, none⟩ = some (.string ⟨nm.toArray⟩) ∧ W.cell? ⟨w.heap.size, 1, none⟩ = some (.int .i64 kind) ∧ W.cell? ⟨w.heap.size, 2, none⟩ = some (.int .i64 axis) ∧ W.cell? ⟨w.heap.size, 3, none⟩ = some (.int .i64 ax) ∧ W.cell? ⟨w.heap.size, 4, none⟩ = some (.int .i64 ay) ∧ W.cell? ⟨w.heap.size, 5, none⟩ = some (.int .i64 az) ∧ W.cell? ⟨w.heap.size, 6, none⟩ = some (.int .i64 lo) ∧ W.cell? ⟨w.heap.size, 7, none⟩ = some (.int .i64 fhi) ∧ W.cell? ⟨w.heap.size, 8, none⟩ = some (fv) ∧ W.cell? ⟨w.heap.size, 9, none⟩ = some (.int .i64 xk) ∧ W.cell? ⟨w.heap.size, 10, none⟩ = some (.bool disc) ∧ W.cell? ⟨w.heap.size, 11, none⟩ = some (.int .i64 tol) ∧ W.cell? ⟨w.heap.size, 12, none⟩ = some (.int .i64 mat) ∧ W.cell? ⟨w.heap.size, 13, none⟩ = some (dv) ∧ W.cell? ⟨w.heap.size, 14, none⟩ = some (.slice sc m kc) ∧ W.cell? ⟨w.heap.size, 15, none⟩ = some (.int .i64 b0) ∧ W.cell? ⟨b, off + i * 6, none⟩ = some (.string ⟨ta.toArray⟩) ∧ W.cell? ⟨b, off + i * 6 + 1, none⟩ = some (.string ⟨tb.toArray⟩) ∧ W.cell? ⟨b, off + i * 6 + 2, none⟩ = some (.string ⟨tc.toArray⟩) ∧ W.cell? ⟨b, off + i * 6 + 3, none⟩ = some (.string ⟨td.toArray⟩) ∧ W.cell? ⟨b, off + i * 6 + 4, none⟩ = some (.string ⟨te.toArray⟩) ∧ W.cell? ⟨b, off + i * 6 + 5, none⟩ = some (.string ⟨tf.toArray⟩) ∧ Below w2.heap.size w2 W)
          (first | with_reducible exact HALL.out _ B1 | with_reducible exact HALL.out _ hB.out | with_reducible exact HALL.out _ hB.out.drew)
          (first
            | (go_at_call 72; (first | (with_reducible refine (HO1.out _ (HJ2.out.w.nx hB.out.drew)).mono ?_) | (with_reducible refine (HO1.out _ (HJ2.out.w.nx hB.out)).mono ?_)); rintro e v1 ⟨rfl, hb1⟩; (first | (with_reducible have B1 := hB.out.drew.nx hb1; have Q1 := hOd.later hb1) | (with_reducible have B1 := hB.out.nx hb1; have Q1 := hO.out.later hb1)))
            | fail)
        have HB3 := Lib.hid B1
        have HO3 := Lib.hid Q1
        clear hb1 B1 Q1 hB HO1 hO HALL hOd
        by_cases hneg : o i < 0
        · obtain ⟨e1, e2, e3⟩ := HSI.out hneg
          have HE := Lib.hid (show ChR w o n (.returned (.tuple #[.int .i64 (i : Int), .slice none 0 0, .bool true, .int .i64 0])) v1 from ⟨_, by rw [e1, e3], by rw [e2]; exact Or.inl ⟨none, 0, rfl, rfl⟩, HJ2.out.w.nx HB3.out⟩)
          clear HKN HSI HTS HTL HT0 HJ2 HB3 HO3 e1 e2 e3
          generalize o i = oi at *
          go_wp2
          ((try simp only [Exit.inBlock, Exit.then]); refine bodyPost_ret (results_tmp4 rfl _ _ _) rfl ?_)
          exact HE.out
        · have HK2 := Lib.hid (HKN.out (Int.not_lt.1 hneg))
          obtain ⟨k, hk⟩ : ∃ k : Nat, o i = (k : Int) := ⟨(o i).toNat, by omega⟩
          have hkn : ¬ (k : Int) < 0 := by omega
          rw [hk]
          clear HKN HSI hneg
          have hal := below_al v1 (.cells #[.int .i64 (k : Int)] 3)
          have HB4 := Lib.hid (HB3.out.nx hal)
          have HO4 := Lib.hid (HO3.out.later hal)
          have HC5 := Lib.hid (show (v1.alloc (.cells #[.int .i64 (k : Int)] 3)).cell? ⟨v1.heap.size, 0, none⟩ = some (.int .i64 (k : Int)) from c1row (heap_alloc_new v1 _))
          clear hal HO3
          go_wp2_with (at_builtin; refine wpList_app_row rfl _ _ 58 3 rfl Tryz.underlying58 (.int .i64 0) 8 (by decide) (by kernel_rfl) rfl w2.heap.size _ (chT o i) rfl HO4.out v1.heap.size k rfl (fun j hj => by obtain rfl : j = 0 := (by simp [Row.k] at hj; exact hj); exact HC5.out) (by have := HTL.out i; omega) HB4.out.size ?_)
          intro v' w6 hO6 hb6
          rw [← HTS.out i k hk] at hO6
          have HO6 := Lib.hid hO6
          have HB6 := Lib.hid (HB4.out.trans hb6)
          clear hO6 hb6 HO4 HB4 HC5 HB3
          go_wp2
          go_roundw
          case rel => exact ⟨i + 1, by go_num, by omega, HK2.out, HO6.out, HB6.out⟩
          case measure => simp [intOf]; omega
      · obtain rfl : i = n := by omega
        obtain ⟨e1, e2, e3⟩ := HN.out hK.out
        have HE := Lib.hid (fun v (h : SlX wr v (chT o i)) => show ChR w o i (.returned (.tuple #[.int .i64 0, v, .bool false, .int .i64 0])) wr from ⟨v, by rw [e1, e3], by rw [e2]; exact h, HJ2.out.w.nx hB.out⟩)
        have HSL := Lib.hid hO.out.sl
        clear HTS HTL HT0 HJ2 hB hO e1 e2 e3 HS HN HO H1 hK
        go_wp2
        ((try simp only [Exit.inBlock, Exit.then]); refine bodyPost_ret (results_tmp4 rfl _ _ _) rfl ?_)
        exact HE.out _ HSL.out
end Go.Proofs.Wk
/- POSITION: choosing: ONE answer of program and reference; lists of ints; few torsors. -/
namespace Go.Proofs.Wk
open Go.RowKit Mt Po

/-- A choice, or an error. -/
def CoR (w : World) (I : Int) (L : List Nat) (B : Bool) (E : Int) (e : Ending) (w' : World) : Prop := ∃ v, e = .returned (.tuple #[.int .i64 I, v, .bool B, .int .i64 E]) ∧ SlX w' v L ∧ Below w.heap.size w w'
theorem chL_len (o : Nat → Int) (n : Nat) : (chL o n).length ≤ n := by
  unfold chL
  split
  · exact Nat.zero_le _
  · rw [chT_len]; exact Nat.le_refl _
theorem CoR.err {w : World} {E : Int} {f : FuncId} {args : Array Value} (h : Calls Tryz.prog f args w (Ret w (.tuple #[.int .i64 0, .slice none 0 0, .bool false, .int .i64 E]))) : Calls Tryz.prog f args w (CoR w 0 [] false E) :=
  h.mono (by rintro e w' ⟨rfl, hb⟩; exact ⟨_, rfl, Or.inl ⟨none, 0, rfl, rfl⟩, hb⟩)
theorem CoR.ok {w : World} {o : Nat → Int} {n : Nat} {f : FuncId} {args : Array Value} (h : Calls Tryz.prog f args w (ChR w o n)) : Calls Tryz.prog f args w (CoR w (chI o n) (chL o n) (chB o n) 0) :=
  h.mono (by rintro e w' ⟨v, rfl, hS, hb⟩; exact ⟨v, rfl, hS, hb⟩)
theorem tq_of {ts : List TT} (hs : ∀ t ∈ ts, ttS t = true) (he : tsE ts = 0) : ∃ f : Nat → TQ, ∀ i, i < ts.length → tA ts i = tqT (f i) ∧ ShT (f i) := by
  have : ∀ i : Nat, ∃ q : TQ, i < ts.length → tA ts i = tqT q ∧ ShT q := fun i => by
    by_cases h : i < ts.length
    · have hm : tA ts i ∈ ts := by rw [tA_get h]; exact List.getElem_mem h
      obtain ⟨q, e, hq⟩ := tt_ok (hs _ hm) (tsE_zero.1 he _ hm)
      exact ⟨q, fun _ => ⟨e, hq⟩⟩
    · exact ⟨⟨0, 0, 0, 0, 0, 0⟩, fun q => absurd q h⟩
  exact Classical.axiomOfChoice this
theorem choose_one {v : Value} (c : Ca) (fv dv sv : Value) (ts : List TT) (ds : List Dt) (ls : List Sp) (w : World) (hg : Good w) (S : CaS w c fv dv sv ds ls) (T : SlX w v ts) (hl : ∀ t ∈ ts, ∀ l ∈ t.l, l.length ≤ 140737488355328)
    (hs : (ts.length ≤ 6 ∧ ∀ t ∈ ts, ttS t = true) ∨ 256 < ts.length) :
    ∃ (I : Int) (L : List Nat) (B : Bool) (E : Int), L.length ≤ 6 ∧ (∀ W, Below w.heap.size w W → Calls Tryz.prog 31 #[caV c fv dv sv, v] W (CoR W I L B E)) ∧ (∀ W, Below w.heap.size w W → Calls Tryz.prog 36 #[caV c fv dv sv, v] W (CoR W I L B E)) := by
  have hla : ∀ i, i < ts.length → ∀ l ∈ (tA ts i).l, l.length ≤ 140737488355328 := fun i hi => by rw [tA_get hi]; exact hl _ (List.getElem_mem hi)
  have HC1 := fun W (h : Below w.heap.size w W) => poCheck_c c fv dv sv ds ls W (S.later h)
  have HC2 := fun W (h : Below w.heap.size w W) => rpoCheck_c c fv dv sv ds ls W (S.later h)
  have HT1 := fun i (hi : i < ts.length) W (h : Below w.heap.size w W) => torCheck_c (tA ts i) W (hg.later h) (hla i hi)
  have HT2 := fun i (hi : i < ts.length) W => rtorCheck_c (tA ts i) W (hla i hi)
  obtain ⟨sc, kc, rfl⟩ := S.sp.lenS
  by_cases hE : caE c.f c.x c.b ds ls = 0
  rotate_left
  · exact ⟨0, [], false, _, Nat.zero_le _, fun W h => CoR.err (choose_e1 c fv dv sc ls.length kc _ W (fun W' h' => HC1 W' (h.nx h')) v hE), fun W h => CoR.err (rchoose_e1 c fv dv sc ls.length kc _ W (fun W' h' => HC2 W' (h.nx h')) v hE)⟩
  rw [hE] at HC1 HC2
  by_cases hn : 256 < ts.length
  · have hv : ∃ sa cap, v = .slice sa ts.length cap := by obtain ⟨sa, cap, e, -⟩ := T.ttF; exact ⟨sa, cap, e⟩
    obtain ⟨sa, cap, rfl⟩ := hv
    exact ⟨0, [], false, _, Nat.zero_le _, fun W h => CoR.err (choose_e2 c fv dv sc ls.length kc W (fun W' h' => HC1 W' (h.nx h')) sa _ cap hn), fun W h => CoR.err (rchoose_e2 c fv dv sc ls.length kc W (fun W' h' => HC2 W' (h.nx h')) sa _ cap hn)⟩
  have hn' : ts.length ≤ 256 := by omega
  by_cases hX : chE 0 ls.length ts = 0
  rotate_left
  · exact ⟨0, [], false, _, Nat.zero_le _, fun W h => CoR.err (choose_e3 c fv dv sc ls.length kc W (fun W' h' => HC1 W' (h.nx h')) v ts (T.later h) hn' (fun i hi W' h' => HT1 i hi W' (h.nx h')) hX),
      fun W h => CoR.err (rchoose_e3 c fv dv sc ls.length kc W (fun W' h' => HC2 W' (h.nx h')) v ts (T.later h) hn' (fun i hi W' _ => HT2 i hi W') hX)⟩
  obtain ⟨-, -, h3, h4, h5⟩ := chE_zero hX
  obtain ⟨h6, h7⟩ := hs.resolve_right (by omega)
  obtain ⟨f, hf⟩ := tq_of h7 h3
  have ho := fun i (hi : i < ts.length) => right_ok hE (hf i hi).2
  refine ⟨_, _, _, 0, Nat.le_trans (chL_len (fun i => outI (fC c (f i) ls) (c.x.tol + c.b) ls.length) ts.length) h6, fun W h => CoR.ok (choose_ok c fv dv sc ls.length kc W (fun W' h' => HC1 W' (h.nx h')) v ts (T.later h) hn' (fun i hi W' h' => HT1 i hi W' (h.nx h')) _ h3 h4 h5 fun i hi W' h' => ?_),
    fun W h => CoR.ok (rchoose_ok c fv dv sc ls.length kc W (fun W' h' => HC2 W' (h.nx h')) v ts (T.later h) hn' (fun i hi W' _ => HT2 i hi W') _ h3 h4 h5 fun i hi W' h' => ?_)⟩
  · obtain ⟨hk, h64, hin, ht, hb⟩ := ho i hi
    rw [(hf i hi).1]
    exact outside_c c fv dv _ (f i) ls W' (hg.later (h.nx h')) hk (S.sp.later (h.nx h')) h64 hin ht hb
  · obtain ⟨hk, h64, hin, ht, hb⟩ := ho i hi
    rw [(hf i hi).1]
    exact routside_c c fv dv _ (f i) ls W' hk (S.sp.later (h.nx h')) h64 hin ht hb
set_option maxRecDepth 100000 in
set_option maxHeartbeats 2000000 in
theorem eqN_c {v u : Value} (L : List Nat) (w : World) (S : SlX w v L) (T : SlX w u L) (hn3 : L.length ≤ 6) : Calls Tryz.prog 37 #[v, u] w (Ret w (.bool true)) := by
  have HF : ∀ {v : Value}, SlX w v L → ∃ sa cap, v = .slice sa L.length cap ∧ ∀ i, i < L.length → ∃ b off, sa = some ⟨b, off, none⟩ ∧ ∀ W, Below w.heap.size w W → W.cell? ⟨b, off + i, none⟩ = some (.int .i64 (L.getD i 0 : Int)) := by
    rintro v (⟨a, c, rfl, rfl⟩ | ⟨b, off, c, rfl, hR, hb⟩)
    · exact ⟨a, c, rfl, fun i h => absurd h (Nat.not_lt_zero _)⟩
    · refine ⟨_, c, rfl, fun i hi => ⟨b, off, rfl, fun W h => ?_⟩⟩
      have := (hR.later h hb).nat hi
      rw [this, List.getD_eq_getElem?_getD, List.getElem?_eq_getElem hi]; rfl
  obtain ⟨sa, c1, rfl, h1⟩ := HF S
  obtain ⟨ta, c2, rfl, h2⟩ := HF T
  have H1 := Lib.hid h1
  have H2 := Lib.hid h2
  clear S T HF h1 h2
  generalize L.getD = g at *
  generalize L.length = n at *
  have z0 : ((n : Int) != (n : Int)) = false := by simp
  go_enter Tryz.func37, Tryz.ntmps37
  go_wp2_with fail
  go_loopw [13] (fun si wr => ∃ i : Nat, si = .int .i64 (i : Int) ∧ i ≤ n ∧ Hid (Below w.heap.size w wr)) (fun si _ => n - (intOf si).toNat)
  case atStart => exact ⟨0, rfl, Nat.zero_le _, Below.refl _ _⟩
  case round =>
    obtain ⟨i, rfl, hi, hB⟩ := hrel
    by_cases hlt : i < n
    · obtain ⟨b, off, rfl, f1⟩ := H1.out i hlt
      obtain ⟨b2, off2, rfl, f2⟩ := H2.out i hlt
      have k0 := f1 _ hB.out
      have k1 := f2 _ hB.out
      clear f1 f2 H1 H2
      generalize g i 0 = tx at *
      have z1 : ((tx : Int) != (tx : Int)) = false := by simp
      have j0 : (i : Int) < (n : Int) := by omega
      have j1 : (0 : Int) ≤ (i : Int) := by omega
      go_wp2_with fail
      go_quiet (fail)
      go_wp2
      go_roundw
      case rel => exact ⟨i + 1, by go_num, by omega, ⟨hB.out.os, hB.out.tape, hB.out.output, hB.out.size, hB.out.block⟩⟩
      case measure => simp [intOf]; omega
    · obtain rfl : i = n := by omega
      clear H1 H2
      have hw := hB.out
      go_wp2
      go_ret
      exact ⟨rfl, hw⟩
def FewR (w : World) (PA : Prop) (e : Ending) (w' : World) : Prop := ∃ b : Bool, e = .returned (.bool b) ∧ (b = true → PA) ∧ Below w.heap.size w w'
set_option maxRecDepth 100000 in
set_option maxHeartbeats 4000000 in
theorem rfewT_c {v : Value} (ts : List TT) (w : World) (T : SlX w v ts) :
    Calls Tryz.prog 35 #[v] w (FewR w ((ts.length ≤ 6 ∧ ∀ t ∈ ts, ttS t = true) ∨ 256 < ts.length)) := by
  have HE := Lib.hid (fun (h : ∀ i, i < ts.length → i < 8 → ttS (tA ts i) = true) (h6 : ts.length ≤ 6) => show (ts.length ≤ 6 ∧ ∀ t ∈ ts, ttS t = true) ∨ 256 < ts.length from .inl ⟨h6, fun t ht => by
    obtain ⟨i, hi, rfl⟩ := List.getElem_of_mem ht
    have := h i hi (by omega)
    rwa [tA_get hi] at this⟩)
  have HC := Lib.hid (fun i W => rtorShort_c (tA ts i) W)
  obtain ⟨sa, cap, rfl, h1⟩ := T.ttF
  have H1 := Lib.hid h1
  clear h1 T
  have HQ := Lib.hid (fun (h : 256 < ts.length) => show (ts.length ≤ 6 ∧ ∀ t ∈ ts, ttS t = true) ∨ 256 < ts.length from .inr h)
  obtain ⟨PA, hPA⟩ : ∃ P : Prop, ((ts.length ≤ 6 ∧ ∀ t ∈ ts, ttS t = true) ∨ 256 < ts.length) = P := ⟨_, rfl⟩
  rw [hPA] at HE HQ ⊢
  clear hPA
  generalize tA ts = tF at *
  generalize ts.length = n at *
  go_enter Tryz.func35, Tryz.ntmps35
  go_wp2_with fail
  go_loopw [3] (fun si wr => ∃ i : Nat, si = .int .i64 (i : Int) ∧ i ≤ n ∧ i ≤ 8 ∧ Hid (∀ k, k < i → ttS (tF k) = true) ∧ Hid (Below w.heap.size w wr)) (fun si _ => n - (intOf si).toNat)
  case atStart => exact ⟨0, rfl, Nat.zero_le _, Nat.zero_le _, fun k hk => absurd hk (Nat.not_lt_zero _), Below.refl _ _⟩
  case round =>
    obtain ⟨i, rfl, hi, hi8, hK, hB⟩ := hrel
    have hw := hB.out
    by_cases hlt : i < n ∧ i < 8
    · obtain ⟨b, off, rfl, f1⟩ := H1.out i hlt.1
      obtain ⟨k0, k1, k2, k3, k4, k5⟩ := f1 _ hB.out
      have HC1 := Lib.hid (HC.out i)
      have HKN := Lib.hid (fun (e : ttS (tF i) = true) (k : Nat) (hk : k < i + 1) => show ttS (tF k) = true from by
        by_cases q : k = i
        · subst q; exact e
        · exact hK.out k (by omega))
      have j0 : (i : Int) < (n : Int) := by omega
      have j1 : (0 : Int) ≤ (i : Int) := by omega
      have j2 : (i : Int) < 8 := by omega
      clear f1 H1 HC hK
      generalize ttS (tF i) = SB at *
      generalize tF i = t at *
      obtain ⟨ta, tb, tc, td, te, tf⟩ := t
      simp only at k0 k1 k2 k3 k4 k5 HC1
      go_wp2_with fail
      ((with_reducible refine (HC1.out _).mono ?_); rintro e w2 ⟨rfl, hb2⟩)
      have hw2 := hw.nx hb2
      clear k0 k1 k2 k3 k4 k5 HC1 hb2 hB
      cases SB with
      | true =>
        have HK2 := Lib.hid (HKN.out rfl)
        clear HKN HE HQ
        go_wp2
        go_roundw
        case rel => exact ⟨i + 1, by go_num, by omega, by omega, HK2.out, hw2⟩
        case measure => simp [intOf]; omega
      | false =>
        clear HKN HE HQ
        go_wp2
        go_ret
        exact ⟨false, rfl, fun h => absurd h (by decide), hw2⟩
    · have HE1 := Lib.hid (HE.out fun k hk h8 => hK.out k (by omega))
      clear H1 HC hK HE
      have HZ : Hid (∃ b : Bool, (b = true → PA) ∧ ((n ≤ 6 ∧ b = true) ∨ (6 < n ∧ n ≤ 256 ∧ b = false) ∨ (256 < n ∧ n ≤ 300 ∧ b = true) ∨ (300 < n ∧ b = false))) := Lib.hid (by
        rcases (by omega : n ≤ 6 ∨ (6 < n ∧ n ≤ 256) ∨ (256 < n ∧ n ≤ 300) ∨ 300 < n) with q | ⟨q, q'⟩ | ⟨q, q'⟩ | q
        · exact ⟨true, fun _ => HE1.out q, .inl ⟨q, rfl⟩⟩
        · exact ⟨false, fun h => absurd h (by decide), .inr (.inl ⟨q, q', rfl⟩)⟩
        · exact ⟨true, fun _ => HQ.out q, .inr (.inr (.inl ⟨q, q', rfl⟩))⟩
        · exact ⟨false, fun h => absurd h (by decide), .inr (.inr (.inr ⟨q, rfl⟩))⟩)
      clear HE1 HQ
      by_cases q1 : i < n
      · have q2 : (i : Int) < (n : Int) := by omega
        have q3 : ¬ (i : Int) < 8 := by omega
        obtain ⟨b, hb, hZ⟩ := HZ.out
        have HBP := Lib.hid (fun w' (hw : Below w.heap.size w w') => show FewR w PA (.returned (.bool b)) w' from ⟨b, rfl, hb, hw⟩)
        clear hb HZ
        rcases hZ with ⟨q, rfl⟩ | ⟨q, q', rfl⟩ | ⟨q, q', rfl⟩ | ⟨q, rfl⟩
        · omega
        · have e1 : ¬ (n : Int) ≤ 6 := by omega
          have e2 : ¬ (256 : Int) < (n : Int) := by omega
          go_wp2
          go_ret
          exact HBP.out _ hw
        · have e1 : ¬ (n : Int) ≤ 6 := by omega
          have e2 : (256 : Int) < (n : Int) := by omega
          have e3 : (n : Int) ≤ 300 := by omega
          go_wp2
          go_ret
          exact HBP.out _ hw
        · have e1 : ¬ (n : Int) ≤ 6 := by omega
          have e2 : (256 : Int) < (n : Int) := by omega
          have e3 : ¬ (n : Int) ≤ 300 := by omega
          go_wp2
          go_ret
          exact HBP.out _ hw
      · have q2 : ¬ (i : Int) < (n : Int) := by omega
        obtain ⟨b, hb, hZ⟩ := HZ.out
        have HBP := Lib.hid (fun w' (hw : Below w.heap.size w w') => show FewR w PA (.returned (.bool b)) w' from ⟨b, rfl, hb, hw⟩)
        clear hb HZ
        rcases hZ with ⟨q, rfl⟩ | ⟨q, q', rfl⟩ | ⟨q, q', rfl⟩ | ⟨q, rfl⟩
        · have e1 : (n : Int) ≤ 6 := by omega
          go_wp2
          go_ret
          exact HBP.out _ hw
        · have e1 : ¬ (n : Int) ≤ 6 := by omega
          have e2 : ¬ (256 : Int) < (n : Int) := by omega
          go_wp2
          go_ret
          exact HBP.out _ hw
        all_goals omega
end Go.Proofs.Wk
