/- POSITION, IN THE REFERENCE: frames, cases and torsors checked. -/
import Derived.Test.YtdpjkfkmlaphhaaGreatDoorPK
import Derived.Test.YtdpjkfkmlaphhaaGreatDoorPJ
import Derived.Test.YtdpjkfkmlaphhaaGreatDoorQG
import Derived.BigRegion
namespace Go.Proofs.Wk
open Go.RowKit Mt Po

set_option maxRecDepth 100000 in
set_option maxHeartbeats 16000000 in
theorem rfrCheck_c {fv dv : Value} (f : Ft) (x : Fm) (ds : List Dt) (w : World) (D : DtS w dv ds) (hn : f.nm.length ≤ 140737488355328) : Calls Tryz.prog 80 #[ftV f fv, frV x dv] w (Ret w (.int .i64 (frE f x ds))) := by
  have HF := Lib.hid (fun W => rfea_c f fv W hn)
  have HP := Lib.hid (fun W (h : Below w.heap.size w W) => rplain_c x ds W (D.later h))
  have HOK := Lib.hid (fun (h : ftE f = 0) => (ftE_ok h).1)
  have HOP := Lib.hid (fun (h : plE x ds = 0) => (plE_ok h).1)
  have hsl := D.1
  obtain ⟨sa, cap, rfl, -⟩ := D.form
  have HPM := Lib.hid (fun (h1 : 0 ≤ f.kind ∧ f.kind < 5) (h2 : 0 ≤ x.kind ∧ x.kind < 9) W => rperm_c (fv := fv) f x ds.length sa cap W rfl h1 h2)
  have HY := Lib.hid (fun i (hi : i < ds.length) (h : ((dA ds i).nm == f.nm) = true) => show (ds.any fun d => d.nm == f.nm) = true from List.any_eq_true.2 ⟨dA ds i, by rw [dA_get hi]; exact List.getElem_mem hi, h⟩)
  have HNO := Lib.hid (fun (h : ∀ i, i < ds.length → ((dA ds i).nm == f.nm) = false) => show (ds.any fun d => d.nm == f.nm) = false by
    rw [Bool.eq_false_iff]; intro q
    obtain ⟨y, hy, e⟩ := List.any_eq_true.1 q
    obtain ⟨i, hi, rfl⟩ := List.getElem_of_mem hy
    have := h i hi
    rw [dA_get hi, e] at this; cases this)
  have HLN := Lib.hid D.2.1
  have hT := Tw.new w [.string ⟨f.nm.toArray⟩, .int .i64 f.kind, .int .i64 f.axis, .int .i64 f.pos.x, .int .i64 f.pos.y, .int .i64 f.pos.z, .int .i64 f.lo, .int .i64 f.hi, fv] [.int .i64 x.kind, .bool x.disc, .int .i64 x.tol, .int .i64 x.mat, .slice sa ds.length cap] 28 31
  obtain ⟨E, hE⟩ : ∃ E, frE f x ds = E := ⟨_, rfl⟩
  rw [hE]
  unfold frE at hE
  have HE := Lib.hid hE
  clear hE hn D
  generalize ftE f = FE at *
  generalize plE x ds = PE at *
  generalize pmE f x ds.length = PM at *
  obtain ⟨nm, kind, axis, ⟨px, py, pz⟩, lo, fhi⟩ := f
  obtain ⟨k, disc, tol, mat⟩ := x
  simp only at hT HOK HOP HPM HY HNO HE
  go_enter Tryz.func80, Tryz.ntmps80
  go_upto_region 1 with fail
  generalize (w.alloc (.cells [Value.string ⟨nm.toArray⟩, .int .i64 kind, .int .i64 axis, .int .i64 px, .int .i64 py, .int .i64 pz, .int .i64 lo, .int .i64 fhi, fv].toArray 28)).alloc (.cells [Value.int .i64 k, .bool disc, .int .i64 tol, .int .i64 mat, .slice sa ds.length cap].toArray 31) = W0 at *
  generalize w.heap.size + 1 = gx at *
  obtain ⟨c0, c1, c2, c3, c4, c5, c6, c7, c8⟩ := c9row hT.a
  go_wp2_with fail
  ((with_reducible refine (HF.out _).mono ?_); rintro e w1 ⟨rfl, hb1⟩)
  have hT1 := hT.later hb1
  clear c0 c1 c2 c3 c4 c5 c6 c7 c8 hb1 hT
  by_cases hF : FE = 0
  rotate_left
  · obtain rfl : FE = E := by have := HE.out; rwa [if_pos hF] at this
    have h3 := bne_ne hF
    have hZ := hT1.w
    clear HE hT1 HF
    go_wp2
    go_ret
    exact ⟨rfl, hZ⟩
  have hkd := HOK.out hF
  subst hF
  replace HE := HE.out
  rw [if_neg (show ¬ (0 : Int) ≠ 0 from by simp)] at HE
  replace HE := Lib.hid HE
  obtain ⟨x0, x1, x2, x3, x4⟩ := c5row hT1.b
  go_wp2_with fail
  ((with_reducible refine (HP.out _ hT1.w).mono ?_); rintro e w2 ⟨rfl, hb2⟩)
  have hT2 := hT1.later hb2
  clear x0 x1 x2 x3 x4 hb2 hT1
  by_cases hP : PE = 0
  rotate_left
  · obtain rfl : PE = E := by have := HE.out; rwa [if_pos hP] at this
    have h3 := bne_ne hP
    have hZ := hT2.w
    clear HE hT2 HP HF
    go_wp2
    go_ret
    exact ⟨rfl, hZ⟩
  have hk := HOP.out hP
  subst hP
  replace HE := HE.out
  rw [if_neg (show ¬ (0 : Int) ≠ 0 from by simp)] at HE
  replace HE := Lib.hid HE
  have HPP := Lib.hid (HPM.out hkd hk)
  obtain ⟨c0, c1, c2, c3, c4, c5, c6, c7, c8⟩ := c9row hT2.a
  obtain ⟨x0, x1, x2, x3, x4⟩ := c5row hT2.b
  clear HPM HOP HOK HP HF hkd hk
  go_wp2_with fail
  ((with_reducible refine (HPP.out _).mono ?_); rintro e w3 ⟨rfl, hb3⟩)
  have HT3 := Lib.hid (hT2.later hb3)
  clear c0 c1 c2 c3 c4 c5 c6 c7 c8 x0 x1 x2 x3 x4 hb3 hT2 HPP
  by_cases hM : PM = 0
  rotate_left
  · obtain rfl : PM = E := by have := HE.out; rwa [if_pos hM] at this
    have h3 := bne_ne hM
    have hZ := HT3.out.w
    clear HE HT3
    go_wp2
    go_ret
    exact ⟨rfl, hZ⟩
  subst hM
  replace HE := HE.out
  rw [if_neg (show ¬ (0 : Int) ≠ 0 from by simp)] at HE
  generalize (ds.any fun d => d.nm == nm) = AN at *
  have HE1 := Lib.hid HE
  clear HE
  rcases hsl with ⟨a, c, he, rfl⟩ | ⟨b, off, c, he, hR, hb⟩
  · obtain rfl : AN = false := HNO.out fun i hi => by simp at hi
    obtain rfl : 0 = E := by have := HE1.out; rwa [if_neg (by simp)] at this
    have hZ := HT3.out.w
    obtain ⟨x0, x1, x2, x3, x4⟩ := c5row HT3.out.b
    clear HE1 HNO HY he x0 x1 x2 x3
    simp only [List.length_nil] at x4 ⊢
    go_wp2_with fail
    refine wp_loop_rounds 1 ?_
    rw [rounds_succ]
    go_wp2
    go_ret
    exact ⟨rfl, hZ⟩
  obtain ⟨rfl, -, rfl⟩ : sa = some ⟨b, off, none⟩ ∧ ds.length = ds.length ∧ cap = c := by simpa using he
  clear he
  have HR := Lib.hid (fun (W : World) (h : Below w.heap.size w W) k (hk : k < ds.length) => ((hR.later h hb).dA hk).1)
  clear hR hb
  generalize dA ds = dF at *
  generalize ds.length = n at *
  go_wp2_with fail
  go_loopw [8] (fun si wr => ∃ i : Nat, si = .int .i64 (i : Int) ∧ i ≤ n ∧ Hid (∀ j, j < i → ((dF j).nm == nm) = false) ∧ Hid (Below w3.heap.size w3 wr)) (fun si _ => n - (intOf si).toNat)
  case atStart => exact ⟨0, rfl, Nat.zero_le _, fun j h => absurd h (Nat.not_lt_zero _), Below.refl _ _⟩
  case round =>
    obtain ⟨i, rfl, hi, hK, hB⟩ := hrel
    have hT4 := HT3.out.later hB.out
    obtain ⟨x0, x1, x2, x3, x4⟩ := c5row hT4.b
    obtain ⟨c0, c1, c2, c3, c4, c5, c6, c7, c8⟩ := c9row hT4.a
    have hw := hT4.w
    clear x0 x1 x2 x3 c1 c2 c3 c4 c5 c6 c7 c8
    by_cases hlt : i < n
    · have k0 := HR.out _ hw i hlt
      have HY2 := Lib.hid (HY.out i hlt)
      have HKN := Lib.hid (fun (e : ((dF i).nm == nm) = false) (k : Nat) (hk : k < i + 1) => show ((dF k).nm == nm) = false from by
        by_cases q : k = i
        · subst q; exact e
        · exact hK.out k (by omega))
      generalize (dF i).nm = nj at *
      have hn47 := HLN.out
      have j0 : (i : Int) < (n : Int) := by omega
      have j1 : (0 : Int) ≤ (i : Int) := by omega
      cases hq : (nj == nm) with
      | true =>
        obtain rfl : AN = true := HY2.out hq
        obtain rfl : 7 = E := by have := HE1.out; rwa [if_pos rfl] at this
        clear HE1 HY2 HKN hK hT4
        go_wp2_with fail
        go_quiet (fail)
        go_wp2
        go_ret
        exact ⟨rfl, ⟨hw.os, hw.tape, hw.output, hw.size, hw.block⟩⟩
      | false =>
        have HK2 := Lib.hid (HKN.out hq)
        clear HY2 HKN hK hT4
        go_wp2_with fail
        go_quiet (fail)
        go_wp2
        go_roundw
        case rel => exact ⟨i + 1, by go_num, by omega, HK2.out, ⟨hB.out.os, hB.out.tape, hB.out.output, hB.out.size, hB.out.block⟩⟩
        case measure => simp [intOf]; omega
    · obtain rfl : i = n := by omega
      obtain rfl : AN = false := HNO.out hK.out
      obtain rfl : 0 = E := by have := HE1.out; rwa [if_neg (by simp)] at this
      clear HE1 hK hT4 c0
      go_wp2
      go_ret
      exact ⟨rfl, hw⟩
end Go.Proofs.Wk
/- POSITION, IN THE REFERENCE: cases and torsors checked. -/
namespace Go.Proofs.Wk
open Go.RowKit Mt Po

set_option maxRecDepth 100000 in
set_option maxHeartbeats 8000000 in
theorem rpoCheck_c (c : Ca) (fv dv sv : Value) (ds : List Dt) (ls : List Sp) (w : World) (S : CaS w c fv dv sv ds ls) : Calls Tryz.prog 34 #[caV c fv dv sv] w (Ret w (.int .i64 (caE c.f c.x c.b ds ls))) := by
  have HF := Lib.hid (fun W (h : Below w.heap.size w W) => rfrCheck_c (fv := fv) c.f c.x ds W (S.dt.later h) S.nm)
  have HS := Lib.hid (fun W (h : Below w.heap.size w W) => rCheckS_c ls W (S.sp.later h) S.ln)
  have hJ := On.new w (caC c fv dv sv).toList 95
  obtain ⟨E, hE⟩ : ∃ E, caE c.f c.x c.b ds ls = E := ⟨_, rfl⟩
  rw [hE]
  unfold caE at hE
  generalize frE c.f c.x ds = FE at *
  generalize Po.chkS ls = SE at *
  obtain ⟨⟨nm, kind, axis, ⟨ax, ay, az⟩, lo, fhi⟩, ⟨xk, disc, tol, mat⟩, b0⟩ := c
  simp only at hE hJ
  have HE := Lib.hid hE
  clear hE S
  go_enter Tryz.func34, Tryz.ntmps34
  go_upto_region 1 with fail
  generalize hW0 : w.alloc (.cells #[.string ⟨nm.toArray⟩, .int .i64 kind, .int .i64 axis, .int .i64 ax, .int .i64 ay, .int .i64 az, .int .i64 lo, .int .i64 fhi, fv, .int .i64 xk, .bool disc, .int .i64 tol, .int .i64 mat, dv, sv, .int .i64 b0] 95) = W0 at *
  clear hW0
  obtain ⟨c0, c1, c2, c3, c4, c5, c6, c7, c8, c9, ca, cb, cc, cd, ce, cf⟩ := c16row hJ.a
  go_wp2_with fail
  ((with_reducible refine (HF.out _ hJ.w).mono ?_); rintro e w1 ⟨rfl, hb1⟩)
  have hJ1 := hJ.later hb1
  have hw1 := hJ1.w
  clear c0 c1 c2 c3 c4 c5 c6 c7 c8 c9 ca cb cc cd ce cf hJ hb1 HF
  by_cases hF : FE = 0
  rotate_left
  · obtain rfl : FE = E := by have := HE.out; rwa [if_pos hF] at this
    have h3 := bne_ne hF
    clear HE hJ1
    go_wp2
    go_ret
    exact ⟨rfl, hw1⟩
  subst hF
  replace HE := HE.out
  rw [if_neg (show ¬ (0 : Int) ≠ 0 from by simp)] at HE
  obtain ⟨c0, c1, c2, c3, c4, c5, c6, c7, c8, c9, ca, cb, cc, cd, ce, cf⟩ := c16row hJ1.a
  clear c0 c1 c2 c3 c4 c5 c6 c7 c8 ca cb cc cd hJ1
  by_cases hk : xk = 8
  rotate_left
  · obtain rfl : 1 = E := by rwa [if_pos hk] at HE
    have h3 : (xk != 8) = true := bne_iff_ne.2 hk
    clear HE
    go_wp2
    go_ret
    exact ⟨rfl, hw1⟩
  subst hk
  rw [if_neg (show ¬ (8 : Int) ≠ 8 from by simp)] at HE
  by_cases hb : b0 < 0 ∨ 100000 < b0
  · obtain rfl : 2 = E := by rwa [if_pos hb] at HE
    clear HE
    rcases (by omega : b0 < 0 ∨ (¬ b0 < 0 ∧ 100000 < b0)) with y | ⟨y, y1⟩
    all_goals
      clear hb
      go_wp2
      go_ret
      exact ⟨rfl, hw1⟩
  rw [if_neg hb] at HE
  obtain ⟨y0, y1⟩ : ¬ b0 < 0 ∧ ¬ 100000 < b0 := ⟨by omega, by omega⟩
  subst HE
  clear hb
  go_wp2_with fail
  ((with_reducible refine (HS.out _ hw1).mono ?_); rintro e w2 ⟨rfl, hb2⟩)
  have hw2 := hw1.nx hb2
  clear c9 ce cf
  go_wp2
  go_ret
  exact ⟨rfl, hw2⟩
end Go.Proofs.Wk
/- POSITION: deviations, in the reference. -/
namespace Go.Proofs.Wk
open Go.RowKit Mt Po

end Go.Proofs.Wk
/- POSITION, IN THE REFERENCE: whether a case is small. -/
namespace Go.Proofs.Wk
open Go.RowKit Mt Po

/-- Some answer, true or false. -/
def AskP (w : World) (e : Ending) (w' : World) : Prop := ∃ b, e = .returned (.bool b) ∧ Below w.heap.size w w'
set_option maxRecDepth 100000 in
set_option maxHeartbeats 8000000 in
theorem rfew18_c (f : Ft) (fv : Value) (fs : List FrV) (w : World) (S : FrS w fv fs) : Calls Tryz.prog 78 #[ftV f fv] w (AskP w) := by
  obtain ⟨S1, -, S3⟩ := S
  have HFR : ∃ sa cap, fv = .slice sa fs.length cap ∧ ∀ i, i < fs.length → ∃ b off a m cp, sa = some ⟨b, off, none⟩ ∧ (∀ W, Below w.heap.size w W → W.cell? ⟨b, off + i * 5 + 4, none⟩ = some (.slice a m cp)) ∧
      ∀ k, k < m → ∃ b2 off2 T, a = some ⟨b2, off2, none⟩ ∧ ∀ W, Below w.heap.size w W → W.cell? ⟨b2, off2 + k * 2, none⟩ = some (.string ⟨List.toArray T⟩) := by
    rcases S1 with ⟨a, c, rfl, rfl⟩ | ⟨b, off, c, rfl, hR, hb⟩
    · exact ⟨a, c, rfl, fun i h => absurd h (Nat.not_lt_zero _)⟩
    · refine ⟨_, c, rfl, fun i hi => ?_⟩
      obtain ⟨ds, hd, hD⟩ := S3 fs[i] (List.getElem_mem hi)
      refine ⟨b, off, fs[i].a, fs[i].len, fs[i].cap, rfl, fun W h => ((hR.later h hb).fr hi).2.2.2.2, fun k hk => ?_⟩
      rcases hD.1 with ⟨a2, c2, he, h0⟩ | ⟨b2, off2, c2, he, hR2, hb2⟩
      · rw [hd, h0] at hk; exact absurd hk (Nat.not_lt_zero _)
      · rw [hd] at hk
        refine ⟨b2, off2, ds[k].nm, by injection he, fun W h => ((hR2.later h hb2).dt hk).1⟩
  obtain ⟨sa, cap, rfl, HF0⟩ := HFR
  have HFR := Lib.hid HF0
  clear HF0 S1 S3
  generalize fs.length = n at *
  have hJ := On.new w [.string ⟨f.nm.toArray⟩, .int .i64 f.kind, .int .i64 f.axis, .int .i64 f.pos.x, .int .i64 f.pos.y, .int .i64 f.pos.z, .int .i64 f.lo, .int .i64 f.hi, .slice sa n cap] 28
  obtain ⟨nm, kind, axis, ⟨px, py, pz⟩, lo, fhi⟩ := f
  simp only at hJ
  go_enter Tryz.func78, Tryz.ntmps78
  go_upto_region 1 with fail
  generalize hW0 : w.alloc (.cells #[Value.string ⟨nm.toArray⟩, .int .i64 kind, .int .i64 axis, .int .i64 px, .int .i64 py, .int .i64 pz, .int .i64 lo, .int .i64 fhi, .slice sa n cap] 28) = W0 at *
  clear hW0
  have HJ := Lib.hid hJ
  obtain ⟨c0, c1, c2, c3, c4, c5, c6, c7, c8⟩ := c9row hJ.a
  have hw := hJ.w
  clear c1 c2 c3 c4 c5 c6 c7 hJ
  generalize hN : (nm.length : Int) = N at *
  by_cases hbig : 100 < nm.length ∨ 12 < n
  · rcases (by omega : (100 : Int) < (nm.length : Int) ∨ (¬ (100 : Int) < (nm.length : Int) ∧ (12 : Int) < (n : Int))) with y | ⟨y, y1⟩
    all_goals
      clear hbig hN
      go_wp2
      go_ret
      exact ⟨_, rfl, hw⟩
  obtain ⟨y, y1⟩ : ¬ (100 : Int) < (nm.length : Int) ∧ ¬ (12 : Int) < (n : Int) := ⟨by omega, by omega⟩
  have hn12 : n ≤ 12 := by omega
  clear hbig hN
  go_wp2_with fail
  clear y y1 c0 c8
  go_loopw [3] (fun si wr => ∃ i : Nat, si = .int .i64 (i : Int) ∧ i ≤ n ∧ Hid (Below W0.heap.size W0 wr)) (fun si _ => n - (intOf si).toNat)
  case atStart => exact ⟨0, rfl, Nat.zero_le _, Below.refl _ _⟩
  case round =>
    obtain ⟨i, rfl, hi, hB⟩ := hrel
    have hJ1 := HJ.out.later hB.out
    obtain ⟨c0, c1, c2, c3, c4, c5, c6, c7, c8⟩ := c9row hJ1.a
    have hw1 := hJ1.w
    clear c0 c1 c2 c3 c4 c5 c6 c7
    by_cases hlt : i < n
    · obtain ⟨b, off, a, m, cp, rfl, h1, h2⟩ := HFR.out i hlt
      have k0 := h1 _ hw1
      have H1 := Lib.hid h1
      have HD := Lib.hid h2
      clear h1 h2 HFR
      have j0 : (i : Int) < (n : Int) := by omega
      have j1 : (0 : Int) ≤ (i : Int) := by omega
      by_cases hm : m ≤ 6
      rotate_left
      · have y : (6 : Int) < (m : Int) := by omega
        clear hm hJ1
        go_wp2
        go_ret
        exact ⟨_, rfl, hw1⟩
      have y : ¬ (6 : Int) < (m : Int) := by omega
      clear hJ1
      go_wp2_with fail
      clear y c8 k0
      go_loopw [4] (fun sk wr => ∃ k : Nat, sk = .int .i64 (k : Int) ∧ k ≤ m ∧ Hid (Below W0.heap.size W0 wr)) (fun sk _ => m - (intOf sk).toNat)
      case atStart => exact ⟨0, rfl, Nat.zero_le _, hB.out⟩
      case round =>
        obtain ⟨k, rfl, hk, hB2⟩ := hrel
        have hJ2 := HJ.out.later hB2.out
        obtain ⟨c0, c1, c2, c3, c4, c5, c6, c7, c8⟩ := c9row hJ2.a
        have hw2 := hJ2.w
        have k0 := H1.out _ hw2
        clear c0 c1 c2 c3 c4 c5 c6 c7 hJ2
        by_cases hkt : k < m
        · obtain ⟨b2, off2, T, rfl, h3⟩ := HD.out k hkt
          have k1 := h3 _ hw2
          clear h3 HD
          have j2 : (k : Int) < (m : Int) := by omega
          have j3 : (0 : Int) ≤ (k : Int) := by omega
          by_cases hT : (100 : Int) < (T.length : Int)
          · go_wp2
            go_ret
            exact ⟨_, rfl, hw2⟩
          · go_wp2
            go_roundw
            case rel => exact ⟨k + 1, by go_num, by omega, hB2.out⟩
            case measure => simp [intOf]; omega
        · obtain rfl : k = m := by omega
          clear HD H1
          go_wp2
          go_roundw
          case rel => exact ⟨i + 1, by go_num, by omega, hB2.out⟩
          case measure => simp [intOf]; omega
    · obtain rfl : i = n := by omega
      clear hJ1
      go_wp2
      go_ret
      exact ⟨_, rfl, hw1⟩
set_option maxRecDepth 100000 in
set_option maxHeartbeats 4000000 in
theorem rfew19_c (x : Fm) (dv : Value) (ds : List Dt) (w : World) (S : DtS w dv ds) : Calls Tryz.prog 79 #[frV x dv] w (AskP w) := by
  obtain ⟨sa, cap, rfl, -⟩ := S.form
  have HF := Lib.hid (fun (W : World) (h : Below w.heap.size w W) (gr : Nat) (T : TypeId) (fr : Nat × Nat) (hr : W.heap[gr]? = some (.cells #[.int .i64 x.kind, .bool x.disc, .int .i64 x.tol, .int .i64 x.mat, .slice sa ds.length cap] T fr)) =>
    rfew18_c ⟨[], 0, 0, ⟨0, 0, 0⟩, 0, 0⟩ (.slice (some ⟨gr, 0, none⟩) 1 1) [⟨x, sa, ds.length, cap⟩] W ⟨Or.inr ⟨gr, 0, 1, rfl, by
      obtain ⟨r0, r1, r2, r3, r4⟩ := c5row hr
      intro i hi j hj
      obtain rfl : i = 0 := by simpa using hi
      obtain rfl | rfl | rfl | rfl | rfl : j = 0 ∨ j = 1 ∨ j = 2 ∨ j = 3 ∨ j = 4 := by
        have : j < 5 := hj
        omega
      · exact r0
      · exact r1
      · exact r2
      · exact r3
      · exact r4, (Array.getElem?_eq_some_iff.1 hr).1⟩, by simp, fun f hf => by
      obtain rfl : f = ⟨x, sa, ds.length, cap⟩ := by simpa using hf
      exact ⟨ds, rfl, S.later h⟩⟩)
  generalize ds.length = n at *
  have hJ := On.new w [.int .i64 x.kind, .bool x.disc, .int .i64 x.tol, .int .i64 x.mat, .slice sa n cap] 31
  obtain ⟨k, disc, tol, mat⟩ := x
  simp only at hJ HF
  clear S
  go_enter Tryz.func79, Tryz.ntmps79
  go_upto_region 1 with fail
  generalize hW0 : w.alloc (.cells #[.int .i64 k, .bool disc, .int .i64 tol, .int .i64 mat, .slice sa n cap] 31) = W0 at *
  clear hW0
  obtain ⟨c0, c1, c2, c3, c4⟩ := c5row hJ.a
  have HN := Lib.hid (HF.out _ (hJ.w.nx (below_al W0 (.cells #[.int .i64 k, .bool disc, .int .i64 tol, .int .i64 mat, .slice sa n cap] 31))) _ _ _ (heap_alloc_new W0 _))
  have hw := hJ.w.nx (below_al W0 (.cells #[.int .i64 k, .bool disc, .int .i64 tol, .int .i64 mat, .slice sa n cap] 31))
  go_wp2_with fail
  ((with_reducible refine HN.out.mono ?_); rintro e w1 ⟨b, rfl, hb1⟩)
  have hw1 := hw.nx hb1
  clear hw hb1 HN HF c0 c1 c2 c3 c4 hJ
  go_wp2
  go_ret
  exact ⟨_, rfl, hw1⟩
set_option maxRecDepth 100000 in
set_option maxHeartbeats 8000000 in
theorem rfew_c (c : Ca) (fv dv sv : Value) (ds : List Dt) (ls : List Sp) (w : World) (S : CaS w c fv dv sv ds ls) : Calls Tryz.prog 33 #[caV c fv dv sv] w (AskP w) := by
  have H1 := Lib.hid (fun W (h : Below w.heap.size w W) => by
    obtain ⟨fs, hf⟩ := S.fr
    exact (rfew18_c c.f fv fs W (hf.later h)))
  have H2 := Lib.hid (fun W (h : Below w.heap.size w W) => rfew19_c c.x dv ds W (S.dt.later h))
  obtain ⟨sa, cap, rfl⟩ := S.sp.lenS
  clear S
  generalize ls.length = n at *
  have hJ := On.new w (caC c fv dv (.slice sa n cap)).toList 95
  obtain ⟨⟨nm, kind, axis, ⟨ax, ay, az⟩, lo, fhi⟩, ⟨xk, disc, tol, mat⟩, b0⟩ := c
  simp only at hJ H1 H2
  go_enter Tryz.func33, Tryz.ntmps33
  go_upto_region 1 with fail
  generalize hW0 : w.alloc (.cells #[.string ⟨nm.toArray⟩, .int .i64 kind, .int .i64 axis, .int .i64 ax, .int .i64 ay, .int .i64 az, .int .i64 lo, .int .i64 fhi, fv, .int .i64 xk, .bool disc, .int .i64 tol, .int .i64 mat, dv, .slice sa n cap, .int .i64 b0] 95) = W0 at *
  clear hW0
  obtain ⟨c0, c1, c2, c3, c4, c5, c6, c7, c8, c9, ca, cb, cc, cd, ce, cf⟩ := c16row hJ.a
  go_wp2_with fail
  ((with_reducible refine (H1.out _ hJ.w).mono ?_); rintro e w1 ⟨b1, rfl, hb1⟩)
  have hJ1 := hJ.later hb1
  have hw1 := hJ1.w
  clear c0 c1 c2 c3 c4 c5 c6 c7 c8 c9 ca cb cc cd ce cf hJ hb1 H1
  obtain ⟨c0, c1, c2, c3, c4, c5, c6, c7, c8, c9, ca, cb, cc, cd, ce, cf⟩ := c16row hJ1.a
  cases b1 with
  | false =>
    clear c0 c1 c2 c3 c4 c5 c6 c7 c8 c9 ca cb cc cd ce cf hJ1 H2
    go_wp2
    go_ret
    exact ⟨_, rfl, hw1⟩
  | true =>
    go_wp2_with fail
    ((with_reducible refine (H2.out _ hw1).mono ?_); rintro e w2 ⟨b2, rfl, hb2⟩)
    have hJ2 := hJ1.later hb2
    have hw2 := hJ2.w
    clear c0 c1 c2 c3 c4 c5 c6 c7 c8 c9 ca cb cc cd ce cf hJ1 hb2 hw1 H2
    obtain ⟨c0, c1, c2, c3, c4, c5, c6, c7, c8, c9, ca, cb, cc, cd, ce, cf⟩ := c16row hJ2.a
    clear c0 c1 c2 c3 c4 c5 c6 c7 c8 c9 ca cb cc cd cf hJ2
    cases b2 with
    | false =>
      go_wp2
      go_ret
      exact ⟨_, rfl, hw2⟩
    | true =>
      rcases (by omega : (n : Int) ≤ 6 ∨ (¬ (n : Int) ≤ 6 ∧ ¬ (64 : Int) < (n : Int)) ∨ (¬ (n : Int) ≤ 6 ∧ (64 : Int) < (n : Int))) with y | ⟨y, y1⟩ | ⟨y, y1⟩
      all_goals
        go_wp2
        go_ret
        exact ⟨_, rfl, hw2⟩
end Go.Proofs.Wk
/- POSITION, IN THE LAW: the placement that does nothing, the case of the chapter. -/
namespace Go.Proofs.Wk
open Go.RowKit Mt Po

abbrev zTT : TT := ⟨[48], [48], [48], [48], [48], [48]⟩
set_option maxRecDepth 100000 in
set_option maxHeartbeats 4000000 in
theorem made_c (b : Nat) (T : TypeId) (w : World) (h : w.heap[b]? = some (.cells #[.string ⟨#[48]⟩, .string ⟨#[48]⟩, .string ⟨#[48]⟩, .string ⟨#[48]⟩, .string ⟨#[48]⟩, .string ⟨#[48]⟩] T (0, 0))) :
    Calls Tryz.prog 44 #[.slice (some ⟨b, 0, none⟩) 6 6] w (Ret w (ttV zTT)) := by
  have hJ := On.new w [.string ⟨#[]⟩, .string ⟨#[]⟩, .string ⟨#[]⟩, .string ⟨#[]⟩, .string ⟨#[]⟩, .string ⟨#[]⟩] 38
  have hb : b < w.heap.size := (Array.getElem?_eq_some_iff.1 h).1
  obtain ⟨k0, k1, k2, k3, k4, k5⟩ := c6row (keepD h (below_al w (.cells [Value.string ⟨#[]⟩, .string ⟨#[]⟩, .string ⟨#[]⟩, .string ⟨#[]⟩, .string ⟨#[]⟩, .string ⟨#[]⟩].toArray 38)))
  have hf := fun j => free_row hJ.a j
  have hne : w.heap.size ≠ b := by omega
  clear h hb
  obtain ⟨z0, z1, z2, z3, z4, z5⟩ := c6row hJ.a
  have hw := hJ.w
  have hr := hJ.a
  go_enter Tryz.func44, Tryz.ntmps44
  go_upto_region 1 with fail
  generalize hW0 : w.alloc (.cells #[Value.string ⟨#[]⟩, .string ⟨#[]⟩, .string ⟨#[]⟩, .string ⟨#[]⟩, .string ⟨#[]⟩, .string ⟨#[]⟩] 38) = W0 at *
  have HR := Lib.hid hr
  have HW := Lib.hid hw
  clear hW0 hJ hr hw
  go_region
  go_wp2
  have hS := s6row (v0 := (.string ⟨#[48]⟩)) (v1 := (.string ⟨#[48]⟩)) (v2 := (.string ⟨#[48]⟩)) (v3 := (.string ⟨#[48]⟩)) (v4 := (.string ⟨#[48]⟩)) (v5 := (.string ⟨#[48]⟩)) HR.out
  have hB := (((((HW.out.cel (p := ⟨w.heap.size, 0, none⟩) (Nat.le_refl _) (.string ⟨#[48]⟩)).cel (p := ⟨w.heap.size, 1, none⟩) (Nat.le_refl _) (.string ⟨#[48]⟩)).cel (p := ⟨w.heap.size, 2, none⟩) (Nat.le_refl _) (.string ⟨#[48]⟩)).cel (p := ⟨w.heap.size, 3, none⟩) (Nat.le_refl _) (.string ⟨#[48]⟩)).cel (p := ⟨w.heap.size, 4, none⟩) (Nat.le_refl _) (.string ⟨#[48]⟩)).cel (p := ⟨w.heap.size, 5, none⟩) (Nat.le_refl _) (.string ⟨#[48]⟩)
  generalize ((((((W0.setCell ⟨w.heap.size, 0, none⟩ (Value.string ⟨#[48]⟩)).setCell ⟨w.heap.size, 1, none⟩ (Value.string ⟨#[48]⟩)).setCell ⟨w.heap.size, 2, none⟩ (Value.string ⟨#[48]⟩)).setCell ⟨w.heap.size, 3, none⟩ (Value.string ⟨#[48]⟩)).setCell ⟨w.heap.size, 4, none⟩ (Value.string ⟨#[48]⟩)).setCell ⟨w.heap.size, 5, none⟩ (Value.string ⟨#[48]⟩)) = W1 at hS hB ⊢
  refine bodyPost_ret (results_cell_row rfl _ _ w.heap.size 38 (ttC zTT) _ _ (by kernel_rfl) (show W1.drew.heap[w.heap.size]? = _ from hS) Tryz.underlying38 rfl (by kernel_rfl)) rfl ?_
  exact ⟨rfl, hB.drew⟩
end Go.Proofs.Wk
/- POSITION, IN THE LAW: the case of the chapter. -/
namespace Go.Proofs.Wk
open Go.RowKit Mt Po

def hoC (d : Bool) : Ca := ⟨⟨[104], 1, 2, ⟨10, 20, 0⟩, 5, 6⟩, ⟨8, d, 10, 0⟩, 0⟩
def hoL : List Sp := [⟨13, 24, 0⟩, ⟨12, 20, 50⟩]
set_option maxRecDepth 100000 in
set_option maxHeartbeats 4000000 in
theorem hole_c (d : Bool) (w : World) : Calls Tryz.prog 41 #[.bool d] w (fun e w' => ∃ sv, e = .returned (caV (hoC d) (.slice none 0 0) (.slice none 0 0) sv) ∧ CaS w' (hoC d) (.slice none 0 0) (.slice none 0 0) sv [] hoL ∧ Below w.heap.size w w') := by
  have hJ := (Tw.new w (caC (hoC d) (.slice none 0 0) (.slice none 0 0) (.slice (some ⟨w.heap.size + 1 + 1, 0, none⟩) 2 2)).toList [.string ⟨#[104]⟩, .int .i64 1, .int .i64 2, .int .i64 10, .int .i64 20, .int .i64 0, .int .i64 5, .int .i64 6, .slice none 0 0] 34 28).later (below_al _ (.cells #[.int .i64 13, .int .i64 24, .int .i64 0, .int .i64 12, .int .i64 20, .int .i64 50] 23))
  have hp := nw3 w (caC (hoC d) (.slice none 0 0) (.slice none 0 0) (.slice (some ⟨w.heap.size + 1 + 1, 0, none⟩) 2 2)) #[.string ⟨#[104]⟩, .int .i64 1, .int .i64 2, .int .i64 10, .int .i64 20, .int .i64 0, .int .i64 5, .int .i64 6, .slice none 0 0] #[.int .i64 13, .int .i64 24, .int .i64 0, .int .i64 12, .int .i64 20, .int .i64 50] 34 28 23
  have HJ := Lib.hid hJ
  have HP := Lib.hid hp
  clear hJ hp
  go_enter Tryz.func41, Tryz.ntmps41
  go_wp2
  refine bodyPost_ret (results_cell_row rfl _ _ w.heap.size 34 (caC (hoC d) (.slice none 0 0) (.slice none 0 0) (.slice (some ⟨w.heap.size + 1 + 1, 0, none⟩) 2 2)) _ _ (by kernel_rfl) HJ.out.a Tryz.underlying34 rfl (by kernel_rfl)) rfl ?_
  refine ⟨_, rfl, ⟨⟨[], Or.inl ⟨none, 0, rfl, rfl⟩, by simp, by simp⟩, ⟨Or.inl ⟨none, 0, rfl, rfl⟩, by simp, by simp, none, 0, rfl, Nat.le_refl _⟩, Or.inr ⟨w.heap.size + 1 + 1, 0, 2, rfl, ?_, (Array.getElem?_eq_some_iff.1 HP.out).1⟩, by decide, (by simp [hoC])⟩, HJ.out.w⟩
  obtain ⟨p0, p1, p2, p3, p4, p5⟩ := c6row HP.out
  intro i hi j hj
  obtain rfl | rfl : i = 0 ∨ i = 1 := by
    have : i < 2 := hi
    omega
  all_goals
    obtain rfl | rfl | rfl : j = 0 ∨ j = 1 ∨ j = 2 := by
      have : j < 3 := hj
      omega
    all_goals first | exact p0 | exact p1 | exact p2 | exact p3 | exact p4 | exact p5
end Go.Proofs.Wk
