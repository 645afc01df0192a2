/- SQUARENESS: the law of points that slide, walked. -/
import Derived.Test.YtenoganbeccanaaGreatDoorLoF
import Derived.BigRegion
namespace Go.Proofs.Wk
open Go.RowKit Mt

/-- The law, where a guard answers. -/
def outS (ls : List Or.P3) (d : Or.P3) : Prop := 6 < ls.length ∨ highE ls d ≠ 0 ∨ near3 d = false ∨ ls.any far3 = true
set_option maxRecDepth 100000 in
set_option maxHeartbeats 4000000 in
theorem slides_out {v u : Value} (ls : List Or.P3) (d : Or.P3) (bs : List I8) (w : World) (hg : Good w) (S : SlX w v ls) (T : SlX w u bs) (hln : ls.length ≤ 140737488355328) (h : outS ls d) :
    Calls Tryz.prog 9 #[v, spV d, u] w (Ret w (.bool true)) := by
  have HAW := Lib.hid (fun W (h : Below w.heap.size w W) => awakeO_c W (hg.later h))
  have HHI := Lib.hid (fun W (h : Below w.heap.size w W) => rHigh_c ls d W (S.later h) hln)
  have HNR := Lib.hid (fun W => near_c d W)
  have HCT := Lib.hid (fun W (h : Below w.heap.size w W) => cont_s3 ls W (S.later h) hln)
  have HD0 := Lib.hid (SpAt.new w d 52)
  have B0 := below_al w (.cells #[.int .i64 d.x, .int .i64 d.y, .int .i64 d.z] 52)
  obtain ⟨sa, cap, rfl⟩ := S.lenS
  obtain ⟨ua, ucap, rfl, -⟩ := T.i8s
  by_cases c1 : 6 < ls.length
  · have z1 : (6 : Int) < (ls.length : Int) := by omega
    clear S T hg h c1 HHI HNR HCT
    obtain ⟨dx, dy, dz⟩ := d
    go_enter Tryz.func9, Tryz.ntmps9
    go_wp2_with fail
    generalize w.alloc (.cells #[.int .i64 dx, .int .i64 dy, .int .i64 dz] 52) = W at *
    ((with_reducible refine (HAW.out _ B0).mono ?_); rintro e wz ⟨rfl, hbz⟩)
    have hBz := (B0).nx hbz
    go_wp2
    go_ret
    exact ⟨rfl, hBz⟩
  have z1 : ¬ (6 : Int) < (ls.length : Int) := by omega
  by_cases c2 : highE ls d = 0
  rotate_left
  · generalize highE ls d = E at *
    have z2 : (E != 0) = true := bne_iff_ne.2 c2
    clear S T hg h c1 c2 HNR HCT
    obtain ⟨dx, dy, dz⟩ := d
    go_enter Tryz.func9, Tryz.ntmps9
    obtain ⟨u0, u1, u2⟩ := HD0.out.t0
    go_wp2_with fail
    generalize w.alloc (.cells #[.int .i64 dx, .int .i64 dy, .int .i64 dz] 52) = W at *
    ((with_reducible refine (HHI.out _ B0).mono ?_); rintro e w1 ⟨rfl, hb1⟩)
    have B1 := B0.nx hb1
    have HD1 := Lib.hid (HD0.out.later hb1)
    clear u0 u1 u2 hb1 HD0 B0
    go_wp2_with fail
    ((with_reducible refine (HAW.out _ B1).mono ?_); rintro e wz ⟨rfl, hbz⟩)
    have hBz := (B1).nx hbz
    go_wp2
    go_ret
    exact ⟨rfl, hBz⟩
  rw [c2] at HHI
  by_cases c3 : near3 d = true
  rotate_left
  · rw [Bool.not_eq_true] at c3
    rw [c3] at HNR
    clear S T hg h c1 c2 c3 HCT
    obtain ⟨dx, dy, dz⟩ := d
    go_enter Tryz.func9, Tryz.ntmps9
    obtain ⟨u0, u1, u2⟩ := HD0.out.t0
    go_wp2_with fail
    generalize w.alloc (.cells #[.int .i64 dx, .int .i64 dy, .int .i64 dz] 52) = W at *
    ((with_reducible refine (HHI.out _ B0).mono ?_); rintro e w1 ⟨rfl, hb1⟩)
    have B1 := B0.nx hb1
    have HD1 := Lib.hid (HD0.out.later hb1)
    clear u0 u1 u2 hb1 HD0 B0
    obtain ⟨u0, u1, u2⟩ := HD1.out.t0
    go_wp2_with fail
    ((with_reducible refine (HNR.out _).mono ?_); rintro e w2 ⟨rfl, hb2⟩)
    have B2 := B1.nx hb2
    have HD2 := Lib.hid (HD1.out.later hb2)
    clear u0 u1 u2 hb2 HD1 B1
    go_wp2_with fail
    ((with_reducible refine (HAW.out _ B2).mono ?_); rintro e wz ⟨rfl, hbz⟩)
    have hBz := (B2).nx hbz
    go_wp2
    go_ret
    exact ⟨rfl, hBz⟩
  rw [c3] at HNR
  by_cases c4 : ls.any far3 = true
  · rw [c4] at HCT
    clear S T hg h c1 c2 c3 c4
    obtain ⟨dx, dy, dz⟩ := d
    go_enter Tryz.func9, Tryz.ntmps9
    obtain ⟨u0, u1, u2⟩ := HD0.out.t0
    go_wp2_with fail
    generalize w.alloc (.cells #[.int .i64 dx, .int .i64 dy, .int .i64 dz] 52) = W at *
    ((with_reducible refine (HHI.out _ B0).mono ?_); rintro e w1 ⟨rfl, hb1⟩)
    have B1 := B0.nx hb1
    have HD1 := Lib.hid (HD0.out.later hb1)
    clear u0 u1 u2 hb1 HD0 B0
    obtain ⟨u0, u1, u2⟩ := HD1.out.t0
    go_wp2_with fail
    ((with_reducible refine (HNR.out _).mono ?_); rintro e w2 ⟨rfl, hb2⟩)
    have B2 := B1.nx hb2
    have HD2 := Lib.hid (HD1.out.later hb2)
    clear u0 u1 u2 hb2 HD1 B1
    obtain ⟨u0, u1, u2⟩ := HD2.out.t0
    go_wp2_with fail
    ((with_reducible refine (HCT.out _ B2).mono ?_); rintro e w3 ⟨rfl, hb3⟩)
    have B3 := B2.nx hb3
    have HD3 := Lib.hid (HD2.out.later hb3)
    clear u0 u1 u2 hb3 HD2 B2
    go_wp2_with fail
    ((with_reducible refine (HAW.out _ B3).mono ?_); rintro e wz ⟨rfl, hbz⟩)
    have hBz := (B3).nx hbz
    go_wp2
    go_ret
    exact ⟨rfl, hBz⟩
  · exact absurd h (by unfold outS; rintro (h | h | h | h); exact c1 h; exact h c2; (rw [c3] at h; cases h); exact c4 h)
set_option maxRecDepth 100000 in
set_option maxHeartbeats 8000000 in
theorem slides_law {v u : Value} (ls : List Or.P3) (d : Or.P3) (bs : List I8) (w : World) (hg : Good w) (S : SlX w v ls) (T : SlX w u bs) (hln : ls.length ≤ 140737488355328) :
    Calls Tryz.prog 9 #[v, spV d, u] w (Ret w (.bool true)) := by
  by_cases ho : outS ls d
  · exact slides_out ls d bs w hg S T hln ho
  have c1 : ¬ 6 < ls.length := fun h => ho (.inl h)
  have c2 : highE ls d = 0 := Decidable.byContradiction fun h => ho (.inr (.inl h))
  have c3 : near3 d = true := by cases q : near3 d with | true => rfl | false => exact absurd (.inr (.inr (.inl q))) ho
  have c4 : ls.any far3 = false := by cases q : ls.any far3 with | false => rfl | true => exact absurd (.inr (.inr (.inr q))) ho
  have hnr := far3_no c4
  obtain ⟨l0, l64, hin, hd, hne⟩ := highE_ok c2
  obtain ⟨e0, e1, e2⟩ := slM_all (bs := bs) c2 hnr c3
  have HAW := Lib.hid (fun W (h : Below w.heap.size w W) => awakeO_c W (hg.later h))
  have HHI := Lib.hid (fun W (h : Below w.heap.size w W) => rHigh_c ls d W (S.later h) hln)
  have HNR := Lib.hid (fun W => near_c d W)
  have HCT := Lib.hid (fun W (h : Below w.heap.size w W) => cont_s3 ls W (S.later h) hln)
  have HD0 := Lib.hid (SpAt.new w d 52)
  have B0 := below_al w (.cells #[.int .i64 d.x, .int .i64 d.y, .int .i64 d.z] 52)
  rw [c2] at HHI
  rw [c3] at HNR
  rw [c4] at HCT
  have z1 : ¬ (6 : Int) < (ls.length : Int) := by omega
  have hl1 : ls.length ≤ 1000 := by omega
  have HCL := Lib.hid (fun W (h : Below w.heap.size w W) => cloneS_c ls W (S.later h) l0 hl1)
  obtain ⟨i1, j1, k1, v1⟩ := upV_val c2
  obtain ⟨i2, j2, k2, v2⟩ := upV_val e0
  rw [e1] at v2
  obtain ⟨i3, j3, v3⟩ := axV_val c2
  have HU1 := Lib.hid (fun W (h : Below w.heap.size w W) => by have := Upright_c ls d W (hg.later h) (S.later h) hln; rwa [v1] at this)
  have HU2 := Lib.hid (fun m W (h : Below w.heap.size w W) (M : SlX W m (slM ls d bs)) => by have := Upright_c (slM ls d bs) d W (hg.later h) M (by rw [slM_len]; exact hln); rwa [v2] at this)
  have HX1 := Lib.hid (fun W (h : Below w.heap.size w W) => by have := Axis_c ls d W (hg.later h) (S.later h) hln; rwa [v3] at this)
  have HX2 := Lib.hid (fun m W (h : Below w.heap.size w W) (M : SlX W m (slM ls d bs)) => by have := Axis_c (slM ls d bs) d W (hg.later h) M (by rw [slM_len]; exact hln); rwa [e2, v3] at this)
  have HCM := Lib.hid (fun W (h : Below w.heap.size w W) => qCmpR (Or.wid ls d) (Rat.divInt (Or.spN ls d) (Or.dot d d)) W (hg.later h) ((wid_szO hd hin).mono (by decide)) ((spN_sz hin hd hne).mono (by decide)))
  have hcm := cmpQ_le (Or.wid ls d) (Rat.divInt (Or.spN ls d) (Or.dot d d))
  rw [decide_eq_true (Or.wid_spN hne l0)] at hcm
  replace hcm := of_decide_eq_true hcm
  generalize cmpQ (Or.wid ls d) (Rat.divInt (Or.spN ls d) (Or.dot d d)) = cm at *
  generalize rtoa (Or.wid ls d) = TU at *
  generalize rtoa (Rat.divInt (Or.spN ls d) (Or.dot d d)) = TX at *
  have HMV := Lib.hid (fun i (hi : i < ls.length) => mv_near (hnr _ (Or.at_mem hi)) c3 (kOf_bd bs i))
  have HKY := Lib.hid (fun i h h2 => @kOf_yes bs i h h2)
  have HKN := Lib.hid (fun i h => @kOf_no bs i h)
  have HKO := Lib.hid (fun i h => @kOf_out bs i h)
  have HNP := Lib.hid (fun i (hi : i < ls.length) => near3_is.1 (hnr _ (Or.at_mem hi)))
  have HND := Lib.hid (near3_is.1 c3)
  obtain ⟨sa, cap, rfl⟩ := S.lenS
  obtain ⟨ua, ucap, rfl, hby⟩ := T.i8s
  have HBY := Lib.hid hby
  have HL0 := Lib.hid l0
  clear S T hg ho c1 c2 c3 c4 hnr l64 hin hd hne e0 e1 e2 v1 v2 v3 hl1 hby l0
  obtain ⟨dx, dy, dz⟩ := d
  go_enter Tryz.func9, Tryz.ntmps9
  obtain ⟨u0, u1, u2⟩ := HD0.out.t0
  go_wp2_with fail
  generalize w.alloc (.cells #[.int .i64 dx, .int .i64 dy, .int .i64 dz] 52) = W at *
  ((with_reducible refine (HHI.out _ B0).mono ?_); rintro e w1 ⟨rfl, hb1⟩)
  have B1 := B0.nx hb1
  have HD1 := Lib.hid (HD0.out.later hb1)
  clear u0 u1 u2 hb1 HD0 B0
  obtain ⟨u0, u1, u2⟩ := HD1.out.t0
  go_wp2_with fail
  ((with_reducible refine (HNR.out _).mono ?_); rintro e w2 ⟨rfl, hb2⟩)
  have B2 := B1.nx hb2
  have HD2 := Lib.hid (HD1.out.later hb2)
  clear u0 u1 u2 hb2 HD1 B1
  obtain ⟨u0, u1, u2⟩ := HD2.out.t0
  go_wp2_with fail
  ((with_reducible refine (HCT.out _ B2).mono ?_); rintro e w3 ⟨rfl, hb3⟩)
  have B3 := B2.nx hb3
  have HD3 := Lib.hid (HD2.out.later hb3)
  clear u0 u1 u2 hb3 HD2 B2
  go_wp2_with fail
  ((with_reducible refine (HCL.out _ B3).mono ?_); rintro e w4 ⟨v4, rfl, ho4, hb4⟩)
  obtain ⟨g, o, cap2, rfl, hg4, hf4, hm4⟩ := ho4.at3 HL0.out
  have HGG := Lib.hid (show w.heap.size < g from Nat.lt_of_lt_of_le HD3.out.lt hg4)
  have HM0 := Lib.hid (show MvM w w4 w.heap.size g o ls ⟨dx, dy, dz⟩ bs 0 from ⟨HD3.out.later hb4, fun a ha => by rw [show mvA ls ⟨dx, dy, dz⟩ bs 0 a = Or.at_ ls a from if_neg (Nat.not_lt_zero a)]; exact hm4 a ha, hf4, B3.nx hb4⟩)
  clear ho4 hm4 hf4 hb4 HD3 B3 HCL HHI HNR HCT hg4
  go_wp2_with fail
  go_loopw [47] (fun si wr => ∃ i : Nat, si = .int .i64 (i : Int) ∧ i ≤ ls.length ∧ Hid (MvM w wr w.heap.size g o ls ⟨dx, dy, dz⟩ bs i)) (fun si _ => ls.length - (intOf si).toNat)
  case atStart => exact ⟨0, rfl, Nat.zero_le _, HM0.out⟩
  case round =>
    clear HM0
    obtain ⟨i, rfl, hi, hM⟩ := hrel
    by_cases hlt : i < ls.length
    · rename World => wq
      by_cases hib : i < bs.length
      · obtain ⟨bb, boff, rfl, hrd⟩ := HBY.out i hib
        have hby := hrd wq hM.out.w
        have hlb2 : (i : Int) < (bs.length : Int) := by omega
        have hky := fun a b => HKY.out i a b
        have hkn := fun a => HKN.out i a
        generalize hkk : (bs.getD i ⟨0⟩).n = kk at *
        clear hrd hkk
        by_cases q1 : -50 < kk
        · by_cases q2 : kk < 50
          · have hk := hky q1 q2
            have hpt := hM.out.pt hlt
            obtain ⟨bdm, -⟩ := HMV.out i hlt
            have bdp := HNP.out i hlt
            have hput := fun (q : Or.P3) (hq : q = mv ⟨dx, dy, dz⟩ (Or.at_ ls i) (kOf bs i)) => hM.out.put hlt (Nat.le_of_lt HGG.out) (Nat.ne_of_lt HGG.out) hq
            rw [hk] at bdm hput
            try simp only at bdm
            clear hkn hky hk
            unfold mv at hput
            generalize Or.at_ ls i = p at *
            obtain ⟨px, py, pz⟩ := p
            try simp only at bdp hput
            obtain ⟨mx, emx⟩ : ∃ a, kk * dx = a := ⟨_, rfl⟩
            obtain ⟨my, emy⟩ : ∃ a, kk * dy = a := ⟨_, rfl⟩
            obtain ⟨mz, emz⟩ : ∃ a, kk * dz = a := ⟨_, rfl⟩
            rw [emx, emy, emz] at bdm hput
            have HPUT := Lib.hid (hput _ rfl)
            have hk1 : IntKind.i64.wrap kk = kk := Go.Proofs.Wk.wr rfl (by omega)
            have hm1 : IntKind.i64.wrap (kk * dx) = mx := Go.Proofs.Wk.wr emx (by omega)
            have hm2 : IntKind.i64.wrap (kk * dy) = my := Go.Proofs.Wk.wr emy (by omega)
            have hm3 : IntKind.i64.wrap (kk * dz) = mz := Go.Proofs.Wk.wr emz (by omega)
            have hp1 : IntKind.i64.wrap (px + mx) = px + mx := Go.Proofs.Wk.wr rfl (by omega)
            have hp2 : IntKind.i64.wrap (py + my) = py + my := Go.Proofs.Wk.wr rfl (by omega)
            have hp3 : IntKind.i64.wrap (pz + mz) = pz + mz := Go.Proofs.Wk.wr rfl (by omega)
            obtain ⟨k0, k1, k2⟩ := hM.out.u.t0
            obtain ⟨m0, m1, m2⟩ := hpt.t
            have hfz := hM.out.f
            clear hpt hput bdm bdp emx emy emz hM
            go_wp2_with fail
            go_region
            all_goals
              go_wp2
              go_roundw
              case rel => exact ⟨i + 1, by go_num, by omega, by first | exact HPUT.out.drew | exact HPUT.out⟩
              case measure => simp [intOf]; omega
          · have HN := Lib.hid (hM.out.same (hkn (by omega)))
            clear hky hkn hM
            go_wp2
            go_roundw
            case rel => exact ⟨i + 1, by go_num, by omega, HN.out⟩
            case measure => simp [intOf]; omega
        · have HN := Lib.hid (hM.out.same (hkn (by omega)))
          clear hky hkn hM
          go_wp2
          go_roundw
          case rel => exact ⟨i + 1, by go_num, by omega, HN.out⟩
          case measure => simp [intOf]; omega
      · have hlb2 : ¬ (i : Int) < (bs.length : Int) := by omega
        have HN := Lib.hid (hM.out.same (HKO.out i (by omega)))
        clear hM
        go_wp2
        go_roundw
        case rel => exact ⟨i + 1, by go_num, by omega, HN.out⟩
        case measure => simp [intOf]; omega
    · obtain rfl : i = ls.length := by omega
      have HSM := Lib.hid (hM.out.fin HL0.out cap2)
      have B4 := hM.out.w
      have hd4 := hM.out.u
      clear hM HKY HKN HKO HMV HNP HND HBY
      obtain ⟨u0, u1, u2⟩ := hd4.t0
      go_wp2_with fail
      ((with_reducible refine (HU1.out _ B4).mono ?_); rintro e t1 ⟨rfl, q1⟩)
      clear u0 u1 u2
      have a1 := below_al t1 (.cells #[.int .i64 (i1 : Int), .int .i64 (j1 : Int), .int .i64 (k1 : Int)] 57)
      have B5 := (B4.nx q1).nx a1
      have hd5 := (hd4.later q1).later a1
      have HSM1 := Lib.hid ((HSM.out.later q1).later a1)
      clear q1 a1 hd4 B4 HSM
      go_upto_region 12 with fail
      generalize t1.alloc (.cells #[.int .i64 (i1 : Int), .int .i64 (j1 : Int), .int .i64 (k1 : Int)] 57) = x1 at *
      generalize t1.heap.size = y1 at *
      obtain ⟨u0, u1, u2⟩ := hd5.t0
      go_wp2_with fail
      ((with_reducible refine (HU2.out _ _ B5 HSM1.out).mono ?_); rintro e t2 ⟨rfl, q2⟩)
      clear u0 u1 u2
      have a2 := below_al t2 (.cells #[.int .i64 (i2 : Int), .int .i64 (j2 : Int), .int .i64 (k2 : Int)] 57)
      have B6 := (B5.nx q2).nx a2
      have hd6 := (hd5.later q2).later a2
      have HSM2 := Lib.hid ((HSM1.out.later q2).later a2)
      clear q2 a2 hd5 B5 HSM1
      go_upto_region 13 with fail
      generalize t2.alloc (.cells #[.int .i64 (i2 : Int), .int .i64 (j2 : Int), .int .i64 (k2 : Int)] 57) = x2 at *
      generalize t2.heap.size = y2 at *
      obtain ⟨u0, u1, u2⟩ := hd6.t0
      go_wp2_with fail
      ((with_reducible refine (HX1.out _ B6).mono ?_); rintro e t3 ⟨rfl, q3⟩)
      clear u0 u1 u2
      have a3 := below_al t3 (.cells #[.int .i64 (i3 : Int), .int .i64 (j3 : Int)] 44)
      have B7 := (B6.nx q3).nx a3
      have hd7 := (hd6.later q3).later a3
      have HSM3 := Lib.hid ((HSM2.out.later q3).later a3)
      have hx1 := heap_alloc_new t3 (.cells #[.int .i64 (i3 : Int), .int .i64 (j3 : Int)] 44)
      clear q3 a3 hd6 B6 HSM2
      go_upto_region 14 with fail
      generalize t3.alloc (.cells #[.int .i64 (i3 : Int), .int .i64 (j3 : Int)] 44) = x3 at *
      generalize t3.heap.size = y3 at *
      obtain ⟨u0, u1, u2⟩ := hd7.t0
      go_wp2_with fail
      ((with_reducible refine (HX2.out _ _ B7 HSM3.out).mono ?_); rintro e t4 ⟨rfl, q4⟩)
      clear u0 u1 u2
      have a4 := below_al t4 (.cells #[.int .i64 (i3 : Int), .int .i64 (j3 : Int)] 44)
      have B8 := (B7.nx q4).nx a4
      have hd8 := (hd7.later q4).later a4
      have HSM4 := Lib.hid ((HSM3.out.later q4).later a4)
      replace hx1 := keepD (keepD hx1 q4) a4
      have hx2 := heap_alloc_new t4 (.cells #[.int .i64 (i3 : Int), .int .i64 (j3 : Int)] 44)
      clear q4 a4 hd7 B7 HSM3
      go_upto_region 15 with fail
      generalize t4.alloc (.cells #[.int .i64 (i3 : Int), .int .i64 (j3 : Int)] 44) = x4 at *
      generalize t4.heap.size = y4 at *
      clear hd8 HSM4 HU1 HU2 HX1 HX2
      go_wp2_with fail
      ((with_reducible refine (HCM.out _ B8).mono ?_); rintro e t5 ⟨rfl, q5⟩)
      have B9 := B8.nx q5
      obtain ⟨k0, k1⟩ := c2row (keepD hx1 q5)
      obtain ⟨k2, k3⟩ := c2row (keepD hx2 q5)
      clear hx1 hx2 q5 B8 HCM
      have ae := fun W => ar2_eql (i3 : Int) (j3 : Int) (i3 : Int) (j3 : Int) W
      rw [show ((i3 : Int) == (i3 : Int) && (j3 : Int) == (j3 : Int)) = true by simp] at ae
      have z9 : (TU == TU) = true := beq_self_eq_true _
      have z8 : (TX == TX) = true := beq_self_eq_true _
      go_wp2_with fail
      ((with_reducible refine (HAW.out _ B9).mono ?_); rintro e wz ⟨rfl, hbz⟩)
      have hBz := B9.nx hbz
      go_wp2
      go_ret
      exact ⟨rfl, hBz⟩
end Go.Proofs.Wk
