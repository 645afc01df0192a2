/- SQUARENESS: the spread, in the program and in the reference. -/
import Derived.Test.YtenoganbeccanaaGreatDoorOF
import Derived.Test.YtenoganbeccanaaGreatDoorOA
namespace Go.Proofs.Wk
open Go.RowKit Mt

def axV (ls : List Or.P3) (d : Or.P3) : Value := if highE ls d = 0 then .tuple #[.string ⟨(rtoa (Rat.divInt (Or.spN ls d) (Or.dot d d))).toArray⟩, .agg #[.int .i64 ((Or.spread ls d).i : Int), .int .i64 ((Or.spread ls d).j : Int)], .int .i64 0]
  else .tuple #[.string ⟨#[]⟩, .agg #[.int .i64 0, .int .i64 0], .int .i64 (highE ls d)]
/-- What lies in memory while pairs are looked at. -/
structure AxM (w W : World) (d : Or.P3) (g pi pj : Nat) : Prop where
  d : W.heap[w.heap.size]? = some (.cells #[.int .i64 d.x, .int .i64 d.y, .int .i64 d.z] 52 (0, 0))
  r : W.heap[w.heap.size + 1]? = some (.cells #[.int .i64 0, .int .i64 0] 44 (0, 0))
  o : W.heap[g]? = some (.cells #[.int .i64 (pi : Int), .int .i64 (pj : Int)] 44 (0, 0))
  w : Below w.heap.size w W
theorem AxM.later {w W W' : World} {d : Or.P3} {g pi pj : Nat} (h : AxM w W d g pi pj) (hb : Below W.heap.size W W') : AxM w W' d g pi pj := ⟨keepD h.d hb, keepD h.r hb, keepD h.o hb, h.w.nx hb⟩
theorem AxM.drew {w W : World} {d : Or.P3} {g pi pj : Nat} (h : AxM w W d g pi pj) : AxM w W.drew d g pi pj := ⟨h.d, h.r, h.o, h.w.drew⟩
theorem AxM.put {w W : World} {d : Or.P3} {g pi pj : Nat} (h : AxM w W d g pi pj) (hg : w.heap.size + 1 < g) (i j : Nat) : AxM w ((W.setCell ⟨g, 0, none⟩ (.int .i64 (i : Int))).setCell ⟨g, 1, none⟩ (.int .i64 (j : Int))) d g i j :=
  ⟨(o2row (show w.heap.size ≠ g by omega)).trans h.d, (o2row (show w.heap.size + 1 ≠ g by omega)).trans h.r, s2row h.o, b2row h.w (by omega)⟩
theorem axM_new {w w2 : World} {d : Or.P3} (h : DrM w w2 #[.int .i64 d.x, .int .i64 d.y, .int .i64 d.z] 52) : AxM w (w2.alloc (.cells #[.int .i64 0, .int .i64 0] 44)) d w2.heap.size 0 0 :=
  ⟨keepD h.d (below_al _ _), keepD h.r (below_al _ _), heap_alloc_new w2 _, h.w.nx (below_al _ _)⟩
/-- Two points, beside it. -/
structure AxR (w W : World) (b o1 o2 : Nat) (d a c : Or.P3) (g pi pj : Nat) : Prop where
  s : AxM w W d g pi pj
  a : SpAt W b o1 a
  c : SpAt W b o2 c
theorem AxR.later {w W W' : World} {b o1 o2 g pi pj : Nat} {d a c : Or.P3} (h : AxR w W b o1 o2 d a c g pi pj) (hb : Below W.heap.size W W') : AxR w W' b o1 o2 d a c g pi pj := ⟨h.s.later hb, h.a.later hb, h.c.later hb⟩
theorem AxR.drew {w W : World} {b o1 o2 g pi pj : Nat} {d a c : Or.P3} (h : AxR w W b o1 o2 d a c g pi pj) : AxR w W.drew b o1 o2 d a c g pi pj := ⟨h.s.drew, h.a.drew, h.c.drew⟩
theorem AxR.t {w W : World} {b o1 o2 g pi pj : Nat} {dx dy dz ax ay az cx cy cz : Int} (h : AxR w W b o1 o2 ⟨dx, dy, dz⟩ ⟨ax, ay, az⟩ ⟨cx, cy, cz⟩ g pi pj) :
    W.cell? ⟨w.heap.size, 0, none⟩ = some (.int .i64 dx) ∧ W.cell? ⟨w.heap.size, 1, none⟩ = some (.int .i64 dy) ∧ W.cell? ⟨w.heap.size, 2, none⟩ = some (.int .i64 dz) ∧
    W.cell? ⟨b, o1, none⟩ = some (.int .i64 ax) ∧ W.cell? ⟨b, o1 + 1, none⟩ = some (.int .i64 ay) ∧ W.cell? ⟨b, o1 + 2, none⟩ = some (.int .i64 az) ∧ W.cell? ⟨b, o2, none⟩ = some (.int .i64 cx) ∧ W.cell? ⟨b, o2 + 1, none⟩ = some (.int .i64 cy) ∧ W.cell? ⟨b, o2 + 2, none⟩ = some (.int .i64 cz) ∧
    AxR w W b o1 o2 ⟨dx, dy, dz⟩ ⟨ax, ay, az⟩ ⟨cx, cy, cz⟩ g pi pj :=
  ⟨(c3row h.s.d).1, (c3row h.s.d).2.1, (c3row h.s.d).2.2, h.a.c0, h.a.c1, h.a.c2, h.c.c0, h.c.c1, h.c.c2, h⟩
theorem spS_yes {ls : List Or.P3} {d : Or.P3} {i j : Nat} {s : Or.Spr} (h : s.n < Or.wy ls d i j) : Or.spS ls d i j s = ⟨Or.wy ls d i j, i, j⟩ := if_pos h
theorem spS_no {ls : List Or.P3} {d : Or.P3} {i j : Nat} {s : Or.Spr} (h : ¬ s.n < Or.wy ls d i j) : Or.spS ls d i j s = s := if_neg h
/-- The way between two points, square to d. -/
def wyv (ls : List Or.P3) (d : Or.P3) (i j : Nat) : Or.P3 := Or.crs (Or.sub (Or.at_ ls i) (Or.at_ ls j)) d
theorem wyv_bd {ls : List Or.P3} {d : Or.P3} {i j : Nat} (hd : InS d) (hin : ∀ p ∈ ls, InS p) (hi : i < ls.length) (hj : j < ls.length) : Bd 40000000000 (wyv ls d i j) :=
  ((Bd.of (hin _ (Or.at_mem hi))).sub (Bd.of (hin _ (Or.at_mem hj))) (n := 200000) (by decide)).crs (Bd.of hd) (by decide)
theorem wy_lng {ls : List Or.P3} {d : Or.P3} {i j : Nat} (hd : InS d) (hin : ∀ p ∈ ls, InS p) (hi : i < ls.length) (hj : j < ls.length) : lng (Or.wy ls d i j) ≤ 42 := lng_dotV ((wyv_bd hd hin hi hj).mono (by decide))
theorem lng_m1 : lng (-1) ≤ 42 := by rw [lng_neg]; exact Nat.le_trans lng_one (by decide)
theorem itoa_m1 : Lib.itoa (-1) = [45, 49] := itoa_is (by decide) (by decide)
set_option maxRecDepth 100000 in
set_option maxHeartbeats 4000000 in
theorem Axis_c {v : Value} (ls : List Or.P3) (d : Or.P3) (w : World) (hg : Good w) (S : SlX w v ls) (hln : ls.length ≤ 140737488355328) : Calls Tryz.prog 33 #[v, spV d] w (Ret w (axV ls d)) := by
  have HER := Lib.hid (fun W (h : Below w.heap.size w W) => ospace_c ls d W (S.later h) hln)
  have hz := drM_new w #[.int .i64 d.x, .int .i64 d.y, .int .i64 d.z] 52
  unfold axV
  by_cases h0 : highE ls d = 0
  · obtain ⟨l0, l64, hin, hd, hne⟩ := highE_ok h0
    rw [if_pos h0]
    rw [h0] at HER
    refine S.cases _ ?_ ?_
    · rintro a cap rfl rfl
      simp at l0
    rintro b off cap rfl hp hR hb
    have HLD := Lib.hid (fun W (h : Below w.heap.size w W) => long_c d W (hg.later h) (Bd.mono (Bd.of hd) (by decide)))
    have HLS := Lib.hid (fun i j (hi : i < ls.length) (hj : j < ls.length) W => oless_c (Or.at_ ls i) (Or.at_ ls j) 100000 100000 W (Bd.of (hin _ (Or.at_mem hi))) (Bd.of (hin _ (Or.at_mem hj))) (by decide))
    have HCR := Lib.hid (show ∀ i j, i < ls.length → j < ls.length → ∀ W, Calls Tryz.prog 96 #[spV (Or.sub (Or.at_ ls i) (Or.at_ ls j)), spV d] W (Ret W (spV (wyv ls d i j))) from fun i j hi hj W => ocross_c (Or.sub (Or.at_ ls i) (Or.at_ ls j)) d 200000 100000 W ((Bd.of (hin _ (Or.at_mem hi))).sub (Bd.of (hin _ (Or.at_mem hj))) (by decide)) (Bd.of hd) (by decide))
    have HLG := Lib.hid (show ∀ i j, i < ls.length → j < ls.length → ∀ W, Below w.heap.size w W → Calls Tryz.prog 95 #[spV (wyv ls d i j)] W (Ret W (ans2 (Lib.itoa (Or.wy ls d i j), 0))) from fun i j hi hj W h => long_c (wyv ls d i j) W (hg.later h) ((wyv_bd hd hin hi hj).mono (by decide)))
    have HSZ := Lib.hid (fun i j (hi : i < ls.length) (hj : j < ls.length) => wy_lng hd hin hi hj)
    have HCM := Lib.hid (fun m n W (hm : lng m ≤ 42) (hn : lng n ≤ 42) => cmpI m n W (Nat.le_trans hm (by decide)) (Nat.le_trans hn (by decide)))
    have HMK := Lib.hid (fun n W (h : Below w.heap.size w W) (hn : lng n ≤ 42) => by
      have hD := Or.dot_pos hne
      have b1 : lng n ≤ 1024 := Nat.le_trans hn (by decide)
      have b2 : lng (Or.dot d d) ≤ 1024 := Nat.le_trans (lng_dotV ((Bd.of hd).mono (by decide))) (by decide)
      have := qMake_c (Lib.itoa n) (Lib.itoa (Or.dot d d)) W (hg.later h) (txt_ok b1) (txt_ok b2)
      rwa [mk2_itoa (lng_big2 b1) (lng_big2 b2), show makQ n (Or.dot d d) = (rtoa (Rat.divInt n (Or.dot d d)), 0) from if_neg (by omega)] at this)
    have HRR := Lib.hid (fun (W : World) (h : Below w.heap.size w W) (k : Nat) (hk : k < ls.length) => (hR.later h hb).spAt hk)
    have hE : Or.spA ls d 0 ⟨-1, 0, 0⟩ = Or.spread ls d := rfl
    have hN : Or.spN ls d = if ls.length = 1 then 0 else (Or.spread ls d).n := rfl
    have HST := Lib.hid (fun i j s (hj : j < ls.length) => Or.spR_step (l := ls) (d := d) (i := i) (j := j) (s := s) hj)
    have HEN := Lib.hid (fun i s => Or.spR_end (l := ls) (d := d) (i := i) (j := ls.length) (s := s) (Nat.le_refl _))
    have HSA := Lib.hid (fun i s (hi : i < ls.length) => Or.spA_step (l := ls) (d := d) (i := i) (s := s) hi)
    have HEA := Lib.hid (fun s => Or.spA_end (l := ls) (d := d) (i := ls.length) (s := s) (Nat.le_refl _))
    have HSY := Lib.hid (fun i j s => @spS_yes ls d i j s)
    have HSN := Lib.hid (fun i j s => @spS_no ls d i j s)
    generalize Or.spread ls d = E at *
    generalize Or.spN ls d = N at *
    generalize Or.dot d d = D at *
    generalize Lib.itoa D = TD at *
    have HE := Lib.hid hE
    have HNN := Lib.hid hN
    have HL0 := Lib.hid l0
    have HWY : Hid (∀ i j, wyv ls d i j = wyv ls d i j) := fun _ _ => rfl
    obtain ⟨dx, dy, dz⟩ := d
    simp only at hz
    have HZ := Lib.hid hz
    clear hz S h0 hin hd hne hg hE hN hR hp hb HWY l0
    go_enter Tryz.func33, Tryz.ntmps33
    go_wp2_with fail
    generalize (w.alloc (.cells #[.int .i64 dx, .int .i64 dy, .int .i64 dz] 52)).alloc (.cells #[.int .i64 0, .int .i64 0] 44) = W0 at *
    obtain ⟨k0, k1, k2⟩ := c3row HZ.out.d
    go_wp2_with fail
    ((with_reducible refine (HER.out _ HZ.out.w).mono ?_); rintro e w1 ⟨rfl, hb1⟩)
    have HZ1 := Lib.hid (HZ.out.later hb1)
    clear k0 k1 k2 hb1 HZ HER
    obtain ⟨k0, k1, k2⟩ := c3row HZ1.out.d
    go_wp2_with fail
    ((with_reducible refine (HLD.out _ HZ1.out.w).mono ?_); rintro e w2 ⟨rfl, hb2⟩)
    have HZ2 := Lib.hid (HZ1.out.later hb2)
    have HX2 := Lib.hid (axM_new (d := ⟨dx, dy, dz⟩) HZ2.out)
    have HG := Lib.hid (show w.heap.size + 1 < w2.heap.size from (Array.getElem?_eq_some_iff.1 HZ2.out.r).1)
    clear k0 k1 k2 hb2 HZ1 HLD HZ2
    go_wp2_with fail
    generalize w2.alloc (.cells #[.int .i64 0, .int .i64 0] 44) = w3 at *
    generalize w2.heap.size = g at *
    have hm1 := itoa_m1
    go_loopw [10, 38] (fun sq si wr => ∃ (i : Nat) (s : Or.Spr), sq = .string ⟨(Lib.itoa s.n).toArray⟩ ∧ si = .int .i64 (i : Int) ∧ i ≤ ls.length ∧ Hid (Or.spA ls ⟨dx, dy, dz⟩ i s = E) ∧ Hid (lng s.n ≤ 42) ∧ Hid (AxM w wr ⟨dx, dy, dz⟩ g s.i s.j)) (fun _ si _ => ls.length - (intOf si).toNat)
    case atStart => exact ⟨0, ⟨-1, 0, 0⟩, by rw [itoa_m1], rfl, Nat.zero_le _, HE.out, lng_m1, HX2.out⟩
    case round =>
      obtain ⟨i, s, rfl, rfl, hi, hs, hq, hI⟩ := hrel
      by_cases hlt : i < ls.length
      · have HS := Lib.hid ((HSA.out i s hlt).symm.trans hs.out)
        clear hs
        go_wp2_with fail
        go_loopw [10, 13] (fun sq sj wr => ∃ (j : Nat) (s : Or.Spr), sq = .string ⟨(Lib.itoa s.n).toArray⟩ ∧ sj = .int .i64 (j : Int) ∧ i < j ∧ j ≤ ls.length ∧ Hid (Or.spA ls ⟨dx, dy, dz⟩ (i + 1) (Or.spR ls ⟨dx, dy, dz⟩ i j s) = E) ∧ Hid (lng s.n ≤ 42) ∧ Hid (AxM w wr ⟨dx, dy, dz⟩ g s.i s.j)) (fun _ sj _ => ls.length - (intOf sj).toNat)
        case atStart => exact ⟨i + 1, s, rfl, by go_num, by omega, by omega, HS.out, hq.out, hI.out⟩
        case round =>
          clear HS hq hI
          obtain ⟨j, s2, rfl, rfl, hij, hj, hs2, hq2, hI2⟩ := hrel
          by_cases hlt2 : j < ls.length
          · have HS2 := Lib.hid (hs2.out)
            have hst := HST.out i j s2 hlt2
            have hls := HLS.out i j hlt hlt2
            have hcr := HCR.out i j hlt hlt2
            have hlg := HLG.out i j hlt hlt2
            have hsz := HSZ.out i j hlt hlt2
            have hsy := HSY.out i j s2
            have hsn := HSN.out i j s2
            have hR0 : AxR w wr b (off + i * 3) (off + j * 3) ⟨dx, dy, dz⟩ (Or.at_ ls i) (Or.at_ ls j) g s2.i s2.j := ⟨hI2.out, HRR.out _ hI2.out.w i hlt, HRR.out _ hI2.out.w j hlt2⟩
            have hcm := fun W => HCM.out (Or.wy ls ⟨dx, dy, dz⟩ i j) s2.n W hsz hq2.out
            generalize Or.wy ls ⟨dx, dy, dz⟩ i j = m at *
            generalize wyv ls ⟨dx, dy, dz⟩ i j = wv at *
            generalize Or.sub (Or.at_ ls i) (Or.at_ ls j) = q at *
            generalize Or.at_ ls i = a at *
            generalize Or.at_ ls j = c at *
            obtain ⟨ax, ay, az⟩ := a
            obtain ⟨cx, cy, cz⟩ := c
            obtain ⟨qx, qy, qz⟩ := q
            obtain ⟨vx, vy, vz⟩ := wv
            rw [hst] at HS2
            have HLS2 := Lib.hid hls
            have HCR2 := Lib.hid hcr
            have HLG2 := Lib.hid hlg
            have HSY2 := Lib.hid hsy
            have HSN2 := Lib.hid hsn
            have HCM2 := Lib.hid hcm
            have HSZ2 := Lib.hid hsz
            have HR0 := Lib.hid hR0
            obtain ⟨sn, si, sj⟩ := s2
            simp only at HCM2 HSY2 HSN2 HR0 hq2 ⊢
            have i0 : (0 : Int) ≤ (i : Int) := by omega
            have i1 : (i : Int) < (ls.length : Int) := by omega
            have j0 : (0 : Int) ≤ (j : Int) := by omega
            have j1 : (j : Int) < (ls.length : Int) := by omega
            have jn : (j : Nat) < ls.length := hlt2
            clear hls hcr hlg hsy hsn hcm hsz hR0 hst hs2 hI2
            go_wp2_with fail
            go_region_held3 (fun w' => w'.cell? ⟨w.heap.size, 0, none⟩ = some (.int .i64 dx) ∧ w'.cell? ⟨w.heap.size, 1, none⟩ = some (.int .i64 dy) ∧ w'.cell? ⟨w.heap.size, 2, none⟩ = some (.int .i64 dz) ∧
                w'.cell? ⟨b, off + i * 3, none⟩ = some (.int .i64 ax) ∧ w'.cell? ⟨b, off + i * 3 + 1, none⟩ = some (.int .i64 ay) ∧ w'.cell? ⟨b, off + i * 3 + 2, none⟩ = some (.int .i64 az) ∧ w'.cell? ⟨b, off + j * 3, none⟩ = some (.int .i64 cx) ∧ w'.cell? ⟨b, off + j * 3 + 1, none⟩ = some (.int .i64 cy) ∧ w'.cell? ⟨b, off + j * 3 + 2, none⟩ = some (.int .i64 cz) ∧
                AxR w w' b (off + i * 3) (off + j * 3) ⟨dx, dy, dz⟩ ⟨ax, ay, az⟩ ⟨cx, cy, cz⟩ g si sj)
              (first | exact J3.t | exact J2.t | exact J1.t | exact HR0.out.t | exact HR0.out.drew.t)
              (first
                | (go_at_call 97; (with_reducible refine (HLS2.out _).mono ?_); rintro e w4 ⟨rfl, hb4⟩; (first | (have J1 := HR0.out.drew.later hb4) | (have J1 := HR0.out.later hb4)))
                | (go_at_call 96; (with_reducible refine (HCR2.out _).mono ?_); rintro e w5 ⟨rfl, hb5⟩; have J2 := J1.later hb5)
                | (go_at_call 95; (with_reducible refine (HLG2.out _ J2.s.w).mono ?_); rintro e w6 ⟨rfl, hb6⟩; have J3 := J2.later hb6)
                | fail)
            all_goals
              have HJ := Lib.hid J3
              clear J1 J2 J3 HR0 hb4 hb5 hb6
              go_wp2_with fail
              rcases Int.lt_or_le sn m with ho | ho
              · have hcm := HCM2.out
                rw [cmp_gt ho] at hcm
                have HCM3 := Lib.hid hcm
                have HE3 := Lib.hid (show Or.spA ls ⟨dx, dy, dz⟩ (i + 1) (Or.spR ls ⟨dx, dy, dz⟩ i (j + 1) ⟨m, i, j⟩) = E by rw [← HSY2.out ho]; exact HS2.out)
                clear hcm HCM2 HSY2 HSN2 HS2
                ((with_reducible refine (HCM3.out _).mono ?_); rintro e w7 ⟨rfl, hb7⟩)
                have HK := Lib.hid (HJ.out.s.later hb7)
                obtain ⟨d0, d1⟩ := c2row HK.out.o
                have hf := fun k => free_row HK.out.o k
                go_wp2
                go_roundw
                case rel => exact ⟨j + 1, ⟨m, i, j⟩, rfl, by go_num, by omega, by omega, HE3.out, HSZ2.out, HK.out.put HG.out _ _⟩
                case measure => simp [intOf]; omega
              · have hcm := HCM2.out
                have hcc : cmp m sn ≤ 0 := by
                  unfold cmp; split
                  · omega
                  · rw [if_neg (by omega)]; omega
                generalize cmp m sn = cc at *
                have HCM3 := Lib.hid hcm
                have HE3 := Lib.hid (show Or.spA ls ⟨dx, dy, dz⟩ (i + 1) (Or.spR ls ⟨dx, dy, dz⟩ i (j + 1) ⟨sn, si, sj⟩) = E by rw [← HSN2.out (by omega)]; exact HS2.out)
                clear hcm HCM2 HSY2 HSN2 HS2
                ((with_reducible refine (HCM3.out _).mono ?_); rintro e w7 ⟨rfl, hb7⟩)
                have HK := Lib.hid (HJ.out.s.later hb7)
                go_wp2
                go_roundw
                case rel => exact ⟨j + 1, ⟨sn, si, sj⟩, rfl, by go_num, by omega, by omega, HE3.out, hq2.out, HK.out⟩
                case measure => simp [intOf]; omega
          · obtain rfl : j = ls.length := by omega
            have HS2 := Lib.hid hs2.out
            rw [HEN.out i s2] at HS2
            clear hs2
            go_wp2
            go_roundw
            case rel => exact ⟨i + 1, s2, rfl, by go_num, by omega, HS2.out, hq2.out, hI2.out⟩
            case measure => simp [intOf]; omega
      · obtain rfl : i = ls.length := by omega
        have hs := hs.out
        rw [HEA.out s] at hs
        subst hs
        have HI := Lib.hid hI.out
        obtain ⟨sn, si, sj⟩ := s
        simp only at HI hq HNN ⊢
        clear hI HE HX2 HLS HCR HLG HSZ HCM HRR HST HEN HSA HEA HSY HSN
        by_cases h1 : ls.length = 1
        · have hn := HNN.out
          rw [if_pos h1] at hn
          subst hn
          have HM0 := Lib.hid (fun W (h : Below w.heap.size w W) => by have := HMK.out 0 W h (Nat.le_trans lng_0 (by decide)); rwa [show Lib.itoa 0 = [48] by decide +kernel] at this)
          have y1 : ((ls.length : Int) == 1) = true := by rw [h1]; rfl
          generalize ls.length = ln at *
          generalize rtoa (Rat.divInt 0 D) = R at *
          go_wp2_with fail
          ((with_reducible refine (HM0.out _ HI.out.w).mono ?_); rintro e w7 ⟨rfl, hb7⟩)
          have HK := Lib.hid (HI.out.later hb7)
          obtain ⟨d0, d1⟩ := c2row HK.out.o
          obtain ⟨e0, e1⟩ := c2row HK.out.r
          have hf := fun k => free_row HK.out.r k
          have q1 : ¬ g = w.heap.size + 1 := by have := HG.out; omega
          have q2 : ¬ w.heap.size + 1 = g := by have := HG.out; omega
          clear hb7
          go_wp2_with fail
          go_region
          all_goals
            go_wp2
            refine bodyPost_ret (res_tct rfl (by kernel_rfl) (s2rowd HK.out.r) Tryz.underlying44 rfl (by kernel_rfl) rfl rfl) rfl ?_
            exact ⟨rfl, (b2row HK.out.w (Nat.le_succ _)).drew⟩
        · have hn := HNN.out
          rw [if_neg h1] at hn
          subst hn
          have HM0 := Lib.hid (fun W (h : Below w.heap.size w W) => HMK.out N W h hq.out)
          have y1 : ((ls.length : Int) == 1) = false := by
            rw [beq_eq_false_iff_ne]; omega
          generalize ls.length = ln at *
          generalize rtoa (Rat.divInt N D) = R at *
          go_wp2_with fail
          ((with_reducible refine (HM0.out _ HI.out.w).mono ?_); rintro e w7 ⟨rfl, hb7⟩)
          have HK := Lib.hid (HI.out.later hb7)
          obtain ⟨d0, d1⟩ := c2row HK.out.o
          obtain ⟨e0, e1⟩ := c2row HK.out.r
          have hf := fun k => free_row HK.out.r k
          have q1 : ¬ g = w.heap.size + 1 := by have := HG.out; omega
          have q2 : ¬ w.heap.size + 1 = g := by have := HG.out; omega
          clear hb7
          go_wp2_with fail
          go_region
          all_goals
            go_wp2
            refine bodyPost_ret (res_tct rfl (by kernel_rfl) (s2rowd HK.out.r) Tryz.underlying44 rfl (by kernel_rfl) rfl rfl) rfl ?_
            exact ⟨rfl, (b2row HK.out.w (Nat.le_succ _)).drew⟩
  · rw [if_neg h0]
    generalize highE ls d = E at *
    have z : (E != 0) = true := bne_iff_ne.2 h0
    obtain ⟨sa, cap, rfl⟩ := S.lenS
    obtain ⟨dx, dy, dz⟩ := d
    simp only at hz
    have HZ := Lib.hid hz
    clear hz S h0 hg
    go_enter Tryz.func33, Tryz.ntmps33
    go_wp2_with fail
    generalize (w.alloc (.cells #[.int .i64 dx, .int .i64 dy, .int .i64 dz] 52)).alloc (.cells #[.int .i64 0, .int .i64 0] 44) = W0 at *
    obtain ⟨k0, k1, k2⟩ := c3row HZ.out.d
    go_wp2_with fail
    ((with_reducible refine (HER.out _ HZ.out.w).mono ?_); rintro e w1 ⟨rfl, hb1⟩)
    have HZ1 := Lib.hid (HZ.out.later hb1)
    clear k0 k1 k2 hb1 HZ HER
    obtain ⟨z0, z1⟩ := c2row HZ1.out.r
    have hf := fun k => free_row HZ1.out.r k
    go_wp2
    refine bodyPost_ret (res_tct rfl (by kernel_rfl) (s2row HZ1.out.r) Tryz.underlying44 rfl (by kernel_rfl) rfl rfl) rfl ?_
    exact ⟨rfl, b2row HZ1.out.w (by omega)⟩
end Go.Proofs.Wk
