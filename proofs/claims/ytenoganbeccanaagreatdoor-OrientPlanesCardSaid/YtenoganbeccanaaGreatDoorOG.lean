/- SQUARENESS: the spread, in the program and in the reference. -/
import Derived.Test.YtenoganbeccanaaGreatDoorOF
import Derived.Test.YtenoganbeccanaaGreatDoorOA
namespace Go.Proofs.Wk
open Go.RowKit Mt

def axV (ls : List Or.P3) (d : Or.P3) : Value := if highE ls d = 0 then .tuple #[.string ⟨(rtoa (Rat.divInt (Or.spN ls d) (Or.dot d d))).toArray⟩, .agg #[.int .i64 ((Or.spread ls d).i : Int), .int .i64 ((Or.spread ls d).j : Int)], .int .i64 0]
  else .tuple #[.string ⟨#[]⟩, .agg #[.int .i64 0, .int .i64 0], .int .i64 (highE ls d)]
/-- What lies in memory while pairs are looked at. -/
structure AxM (w W : World) (d : Or.P3) (g pi pj : Nat) : Prop where
  d : W.heap[w.heap.size]? = some (.cells #[.int .i64 d.x, .int .i64 d.y, .int .i64 d.z] 52 (0, 0))
  r : W.heap[w.heap.size + 1]? = some (.cells #[.int .i64 0, .int .i64 0] 44 (0, 0))
  o : W.heap[g]? = some (.cells #[.int .i64 (pi : Int), .int .i64 (pj : Int)] 44 (0, 0))
  w : Below w.heap.size w W
theorem AxM.later {w W W' : World} {d : Or.P3} {g pi pj : Nat} (h : AxM w W d g pi pj) (hb : Below W.heap.size W W') : AxM w W' d g pi pj := ⟨keepD h.d hb, keepD h.r hb, keepD h.o hb, h.w.nx hb⟩
theorem AxM.drew {w W : World} {d : Or.P3} {g pi pj : Nat} (h : AxM w W d g pi pj) : AxM w W.drew d g pi pj := ⟨h.d, h.r, h.o, h.w.drew⟩
theorem AxM.put {w W : World} {d : Or.P3} {g pi pj : Nat} (h : AxM w W d g pi pj) (hg : w.heap.size + 1 < g) (i j : Nat) : AxM w ((W.setCell ⟨g, 0, none⟩ (.int .i64 (i : Int))).setCell ⟨g, 1, none⟩ (.int .i64 (j : Int))) d g i j :=
  ⟨(o2row (show w.heap.size ≠ g by omega)).trans h.d, (o2row (show w.heap.size + 1 ≠ g by omega)).trans h.r, s2row h.o, b2row h.w (by omega)⟩
theorem axM_new {w w2 : World} {d : Or.P3} (h : DrM w w2 #[.int .i64 d.x, .int .i64 d.y, .int .i64 d.z] 52) : AxM w (w2.alloc (.cells #[.int .i64 0, .int .i64 0] 44)) d w2.heap.size 0 0 :=
  ⟨keepD h.d (below_al _ _), keepD h.r (below_al _ _), heap_alloc_new w2 _, h.w.nx (below_al _ _)⟩
/-- Two points, beside it. -/
structure AxR (w W : World) (b o1 o2 : Nat) (d a c : Or.P3) (g pi pj : Nat) : Prop where
  s : AxM w W d g pi pj
  a : SpAt W b o1 a
  c : SpAt W b o2 c
theorem AxR.later {w W W' : World} {b o1 o2 g pi pj : Nat} {d a c : Or.P3} (h : AxR w W b o1 o2 d a c g pi pj) (hb : Below W.heap.size W W') : AxR w W' b o1 o2 d a c g pi pj := ⟨h.s.later hb, h.a.later hb, h.c.later hb⟩
theorem AxR.drew {w W : World} {b o1 o2 g pi pj : Nat} {d a c : Or.P3} (h : AxR w W b o1 o2 d a c g pi pj) : AxR w W.drew b o1 o2 d a c g pi pj := ⟨h.s.drew, h.a.drew, h.c.drew⟩
theorem AxR.t {w W : World} {b o1 o2 g pi pj : Nat} {dx dy dz ax ay az cx cy cz : Int} (h : AxR w W b o1 o2 ⟨dx, dy, dz⟩ ⟨ax, ay, az⟩ ⟨cx, cy, cz⟩ g pi pj) :
    W.cell? ⟨w.heap.size, 0, none⟩ = some (.int .i64 dx) ∧ W.cell? ⟨w.heap.size, 1, none⟩ = some (.int .i64 dy) ∧ W.cell? ⟨w.heap.size, 2, none⟩ = some (.int .i64 dz) ∧
    W.cell? ⟨b, o1, none⟩ = some (.int .i64 ax) ∧ W.cell? ⟨b, o1 + 1, none⟩ = some (.int .i64 ay) ∧ W.cell? ⟨b, o1 + 2, none⟩ = some (.int .i64 az) ∧ W.cell? ⟨b, o2, none⟩ = some (.int .i64 cx) ∧ W.cell? ⟨b, o2 + 1, none⟩ = some (.int .i64 cy) ∧ W.cell? ⟨b, o2 + 2, none⟩ = some (.int .i64 cz) ∧
    AxR w W b o1 o2 ⟨dx, dy, dz⟩ ⟨ax, ay, az⟩ ⟨cx, cy, cz⟩ g pi pj :=
  ⟨(c3row h.s.d).1, (c3row h.s.d).2.1, (c3row h.s.d).2.2, h.a.c0, h.a.c1, h.a.c2, h.c.c0, h.c.c1, h.c.c2, h⟩
theorem spS_yes {ls : List Or.P3} {d : Or.P3} {i j : Nat} {s : Or.Spr} (h : s.n < Or.wy ls d i j) : Or.spS ls d i j s = ⟨Or.wy ls d i j, i, j⟩ := if_pos h
theorem spS_no {ls : List Or.P3} {d : Or.P3} {i j : Nat} {s : Or.Spr} (h : ¬ s.n < Or.wy ls d i j) : Or.spS ls d i j s = s := if_neg h
/-- The way between two points, square to d. -/
def wyv (ls : List Or.P3) (d : Or.P3) (i j : Nat) : Or.P3 := Or.crs (Or.sub (Or.at_ ls i) (Or.at_ ls j)) d
theorem wyv_bd {ls : List Or.P3} {d : Or.P3} {i j : Nat} (hd : InS d) (hin : ∀ p ∈ ls, InS p) (hi : i < ls.length) (hj : j < ls.length) : Bd 40000000000 (wyv ls d i j) :=
  ((Bd.of (hin _ (Or.at_mem hi))).sub (Bd.of (hin _ (Or.at_mem hj))) (n := 200000) (by decide)).crs (Bd.of hd) (by decide)
theorem wy_lng {ls : List Or.P3} {d : Or.P3} {i j : Nat} (hd : InS d) (hin : ∀ p ∈ ls, InS p) (hi : i < ls.length) (hj : j < ls.length) : lng (Or.wy ls d i j) ≤ 42 := lng_dotV ((wyv_bd hd hin hi hj).mono (by decide))
theorem lng_m1 : lng (-1) ≤ 42 := by rw [lng_neg]; exact Nat.le_trans lng_one (by decide)
theorem itoa_m1 : Lib.itoa (-1) = [45, 49] := itoa_is (by decide) (by decide)
set_option maxRecDepth 100000 in
set_option maxHeartbeats 4000000 in
theorem Axis_c {v : Value} (ls : List Or.P3) (d : Or.P3) (w : World) (hg : Good w) (S : SlX w v ls) (hln : ls.length ≤ 140737488355328) : Calls Tryz.prog 33 #[v, spV d] w (Ret w (axV ls d)) := by
  have HER := Lib.hid (fun W (h : Below w.heap.size w W) => ospace_c ls d W (S.later h) hln)
  have hz := drM_new w #[.int .i64 d.x, .int .i64 d.y, .int .i64 d.z] 52
  unfold axV
  by_cases h0 : highE ls d = 0
  · obtain ⟨l0, l64, hin, hd, hne⟩ := highE_ok h0
    rw [if_pos h0]
    rw [h0] at HER
    refine S.cases _ ?_ ?_
    · rintro a cap rfl rfl
      simp at l0
    rintro b off cap rfl hp hR hb
    have HLD := Lib.hid (fun W (h : Below w.heap.size w W) => long_c d W (hg.later h) (Bd.mono (Bd.of hd) (by decide)))
    have HLS := Lib.hid (fun i j (hi : i < ls.length) (hj : j < ls.length) W => oless_c (Or.at_ ls i) (Or.at_ ls j) 100000 100000 W (Bd.of (hin _ (Or.at_mem hi))) (Bd.of (hin _ (Or.at_mem hj))) (by decide))
    have HCR := Lib.hid (show ∀ i j, i < ls.length → j < ls.length → ∀ W, Calls Tryz.prog 96 #[spV (Or.sub (Or.at_ ls i) (Or.at_ ls j)), spV d] W (Ret W (spV (wyv ls d i j))) from fun i j hi hj W => ocross_c (Or.sub (Or.at_ ls i) (Or.at_ ls j)) d 200000 100000 W ((Bd.of (hin _ (Or.at_mem hi))).sub (Bd.of (hin _ (Or.at_mem hj))) (by decide)) (Bd.of hd) (by decide))
    have HLG := Lib.hid (show ∀ i j, i < ls.length → j < ls.length → ∀ W, Below w.heap.size w W → Calls Tryz.prog 95 #[spV (wyv ls d i j)] W (Ret W (ans2 (Lib.itoa (Or.wy ls d i j), 0))) from fun i j hi hj W h => long_c (wyv ls d i j) W (hg.later h) ((wyv_bd hd hin hi hj).mono (by decide)))
    have HSZ := Lib.hid (fun i j (hi : i < ls.length) (hj : j < ls.length) => wy_lng hd hin hi hj)
    have HCM := Lib.hid (fun m n W (hm : lng m ≤ 42) (hn : lng n ≤ 42) => cmpI m n W (Nat.le_trans hm (by decide)) (Nat.le_trans hn (by decide)))
    have HMK := Lib.hid (fun n W (h : Below w.heap.size w W) (hn : lng n ≤ 42) => by
      have hD := Or.dot_pos hne
      have b1 : lng n ≤ 1024 := Nat.le_trans hn (by decide)
      have b2 : lng (Or.dot d d) ≤ 1024 := Nat.le_trans (lng_dotV ((Bd.of hd).mono (by decide))) (by decide)
      have := qMake_c (Lib.itoa n) (Lib.itoa (Or.dot d d)) W (hg.later h) (txt_ok b1) (txt_ok b2)
      rwa [mk2_itoa (lng_big2 b1) (lng_big2 b2), show makQ n (Or.dot d d) = (rtoa (Rat.divInt n (Or.dot d d)), 0) from if_neg (by omega)] at this)
    have HRR := Lib.hid (fun (W : World) (h : Below w.heap.size w W) (k : Nat) (hk : k < ls.length) => (hR.later h hb).spAt hk)
    have hE : Or.spA ls d 0 ⟨-1, 0, 0⟩ = Or.spread ls d := rfl
    have hN : Or.spN ls d = if ls.length = 1 then 0 else (Or.spread ls d).n := rfl
    have HST := Lib.hid (fun i j s (hj : j < ls.length) => Or.spR_step (l := ls) (d := d) (i := i) (j := j) (s := s) hj)
    have HEN := Lib.hid (fun i s => Or.spR_end (l := ls) (d := d) (i := i) (j := ls.length) (s := s) (Nat.le_refl _))
    have HSA := Lib.hid (fun i s (hi : i < ls.length) => Or.spA_step (l := ls) (d := d) (i := i) (s := s) hi)
    have HEA := Lib.hid (fun s => Or.spA_end (l := ls) (d := d) (i := ls.length) (s := s) (Nat.le_refl _))
    have HSY := Lib.hid (fun i j s => @spS_yes ls d i j s)
    have HSN := Lib.hid (fun i j s => @spS_no ls d i j s)
    generalize Or.spread ls d = E at *
    generalize Or.spN ls d = N at *
    generalize Or.dot d d = D at *
    generalize Lib.itoa D = TD at *
    have HE := Lib.hid hE
    have HNN := Lib.hid hN
    have HL0 := Lib.hid l0
    have HWY : Hid (∀ i j, wyv ls d i j = wyv ls d i j) := fun _ _ => rfl
    obtain ⟨dx, dy, dz⟩ := d
    simp only at hz
    have HZ := Lib.hid hz
    clear hz S h0 hin hd hne hg hE hN hR hp hb HWY l0
    go_enter Tryz.func33, Tryz.ntmps33
    go_wp2_with fail
    generalize (w.alloc (.cells #[.int .i64 dx, .int .i64 dy, .int .i64 dz] 52)).alloc (.cells #[.int .i64 0, .int .i64 0] 44) = W0 at *
    obtain ⟨k0, k1, k2⟩ := c3row HZ.out.d
    go_wp2_with fail
    ((with_reducible refine (HER.out _ HZ.out.w).mono ?_); rintro e w1 ⟨rfl, hb1⟩)
    have HZ1 := Lib.hid (HZ.out.later hb1)
    clear k0 k1 k2 hb1 HZ HER
    obtain ⟨k0, k1, k2⟩ := c3row HZ1.out.d
    go_wp2_with fail
    ((with_reducible refine (HLD.out _ HZ1.out.w).mono ?_); rintro e w2 ⟨rfl, hb2⟩)
    have HZ2 := Lib.hid (HZ1.out.later hb2)
    have HX2 := Lib.hid (axM_new (d := ⟨dx, dy, dz⟩) HZ2.out)
    have HG := Lib.hid (show w.heap.size + 1 < w2.heap.size from (Array.getElem?_eq_some_iff.1 HZ2.out.r).1)
    clear k0 k1 k2 hb2 HZ1 HLD HZ2
    go_wp2_with fail
    generalize w2.alloc (.cells #[.int .i64 0, .int .i64 0] 44) = w3 at *
    generalize w2.heap.size = g at *
    have hm1 := itoa_m1
    go_loopw [10, 38] (fun sq si wr => ∃ (i : Nat) (s : Or.Spr), sq = .string ⟨(Lib.itoa s.n).toArray⟩ ∧ si = .int .i64 (i : Int) ∧ i ≤ ls.length ∧ Hid (Or.spA ls ⟨dx, dy, dz⟩ i s = E) ∧ Hid (lng s.n ≤ 42) ∧ Hid (AxM w wr ⟨dx, dy, dz⟩ g s.i s.j)) (fun _ si _ => ls.length - (intOf si).toNat)
    case atStart => exact ⟨0, ⟨-1, 0, 0⟩, by rw [itoa_m1], rfl, Nat.zero_le _, HE.out, lng_m1, HX2.out⟩
    case round =>
      obtain ⟨i, s, rfl, rfl, hi, hs, hq, hI⟩ := hrel
      by_cases hlt : i < ls.length
      · have HS := Lib.hid ((HSA.out i s hlt).symm.trans hs.out)
        clear hs
        go_wp2_with fail
        go_loopw [10, 13] (fun sq sj wr => ∃ (j : Nat) (s : Or.Spr), sq = .string ⟨(Lib.itoa s.n).toArray⟩ ∧ sj = .int .i64 (j : Int) ∧ i < j ∧ j ≤ ls.length ∧ Hid (Or.spA ls ⟨dx, dy, dz⟩ (i + 1) (Or.spR ls ⟨dx, dy, dz⟩ i j s) = E) ∧ Hid (lng s.n ≤ 42) ∧ Hid (AxM w wr ⟨dx, dy, dz⟩ g s.i s.j)) (fun _ sj _ => ls.length - (intOf sj).toNat)
        case atStart => exact ⟨i + 1, s, rfl, by go_num, by omega, by omega, HS.out, hq.out, hI.out⟩
        case round =>
          clear HS hq hI
          obtain ⟨j, s2, rfl, rfl, hij, hj, hs2, hq2, hI2⟩ := hrel
          by_cases hlt2 : j < ls.length
          · have HS2 := Lib.hid (hs2.out)
            have hst := HST.out i j s2 hlt2
            have hls := HLS.out i j hlt hlt2
            have hcr := HCR.out i j hlt hlt2
            have hlg := HLG.out i j hlt hlt2
            have hsz := HSZ.out i j hlt hlt2
            have hsy := HSY.out i j s2
            have hsn := HSN.out i j s2
            have hR0 : AxR w wr b (off + i * 3) (off + j * 3) ⟨dx, dy, dz⟩ (Or.at_ ls i) (Or.at_ ls j) g s2.i s2.j := ⟨hI2.out, HRR.out _ hI2.out.w i hlt, HRR.out _ hI2.out.w j hlt2⟩
            have hcm := fun W => HCM.out (Or.wy ls ⟨dx, dy, dz⟩ i j) s2.n W hsz hq2.out
            generalize Or.wy ls ⟨dx, dy, dz⟩ i j = m at *
            generalize wyv ls ⟨dx, dy, dz⟩ i j = wv at *
            generalize Or.sub (Or.at_ ls i) (Or.at_ ls j) = q at *
            generalize Or.at_ ls i = a at *
            generalize Or.at_ ls j = c at *
            obtain ⟨ax, ay, az⟩ := a
            obtain ⟨cx, cy, cz⟩ := c
            obtain ⟨qx, qy, qz⟩ := q
            obtain ⟨vx, vy, vz⟩ := wv
            rw [hst] at HS2
            have HLS2 := Lib.hid hls
            have HCR2 := Lib.hid hcr
            have HLG2 := Lib.hid hlg
            have HSY2 := Lib.hid hsy
            have HSN2 := Lib.hid hsn
            have HCM2 := Lib.hid hcm
            have HSZ2 := Lib.hid hsz
            have HR0 := Lib.hid hR0
            obtain ⟨sn, si, sj⟩ := s2
            simp only at HCM2 HSY2 HSN2 HR0 hq2 ⊢
            have i0 : (0 : Int) ≤ (i : Int) := by omega
            have i1 : (i : Int) < (ls.length : Int) := by omega
            have j0 : (0 : Int) ≤ (j : Int) := by omega
            have j1 : (j : Int) < (ls.length : Int) := by omega
            have jn : (j : Nat) < ls.length := hlt2
            clear hls hcr hlg hsy hsn hcm hsz hR0 hst hs2 hI2
            go_wp2_with fail
            go_region_held3 (fun w' => w'.cell? ⟨w.heap.size, 0, none⟩ = some (.int .i64 dx) ∧ w'.cell? ⟨w.heap.size, 1, none⟩ = some (.int .i64 dy) ∧ w'.cell? ⟨w.heap.size, 2, none⟩ = some (.int .i64 dz) ∧
                w'.cell? ⟨b, off + i * 3, none⟩ = some (.int .i64 ax) ∧ w'.cell? ⟨b, off + i * 3 + 1, none⟩ = some (.int .i64 ay) ∧ w'.cell? ⟨b, off + i * 3 + 2, none⟩ = some (.int .i64 az) ∧ w'.cell? ⟨b, off + j * 3, none⟩ = some (.int .i64 cx) ∧ w'.cell? ⟨b, off + j * 3 + 1, none⟩ = some (.int .i64 cy) ∧ w'.cell? ⟨b, off + j * 3 + 2, none⟩ = some (.int .i64 cz) ∧
                AxR w w' b (off + i * 3) (off + j * 3) ⟨dx, dy, dz⟩ ⟨ax, ay, az⟩ ⟨cx, cy, cz⟩ g si sj)
              (first | exact J3.t | exact J2.t | exact J1.t | exact HR0.out.t | exact HR0.out.drew.t)
              (first
                | (go_at_call 97; (with_reducible refine (HLS2.out _).mono ?_); rintro e w4 ⟨rfl, hb4⟩; (first | (have J1 := HR0.out.drew.later hb4) | (have J1 := HR0.out.later hb4)))
                | (go_at_call 96; (with_reducible refine (HCR2.out _).mono ?_); rintro e w5 ⟨rfl, hb5⟩; have J2 := J1.later hb5)
                | (go_at_call 95; (with_reducible refine (HLG2.out _ J2.s.w).mono ?_); rintro e w6 ⟨rfl, hb6⟩; have J3 := J2.later hb6)
                | fail)
            all_goals
              have HJ := Lib.hid J3
              clear J1 J2 J3 HR0 hb4 hb5 hb6
              go_wp2_with fail
              rcases Int.lt_or_le sn m with ho | ho
              · have hcm := HCM2.out
                rw [cmp_gt ho] at hcm
                have HCM3 := Lib.hid hcm
                have HE3 := Lib.hid (show Or.spA ls ⟨dx, dy, dz⟩ (i + 1) (Or.spR ls ⟨dx, dy, dz⟩ i (j + 1) ⟨m, i, j⟩) = E by rw [← HSY2.out ho]; exact HS2.out)
                clear hcm HCM2 HSY2 HSN2 HS2
                ((with_reducible refine (HCM3.out _).mono ?_); rintro e w7 ⟨rfl, hb7⟩)
                have HK := Lib.hid (HJ.out.s.later hb7)
                obtain ⟨d0, d1⟩ := c2row HK.out.o
                have hf := fun k => free_row HK.out.o k
                go_wp2
                go_roundw
                case rel => exact ⟨j + 1, ⟨m, i, j⟩, rfl, by go_num, by omega, by omega, HE3.out, HSZ2.out, HK.out.put HG.out _ _⟩
                case measure => simp [intOf]; omega
              · have hcm := HCM2.out
                have hcc : cmp m sn ≤ 0 := by
                  unfold cmp; split
                  · omega
                  · rw [if_neg (by omega)]; omega
                generalize cmp m sn = cc at *
                have HCM3 := Lib.hid hcm
                have HE3 := Lib.hid (show Or.spA ls ⟨dx, dy, dz⟩ (i + 1) (Or.spR ls ⟨dx, dy, dz⟩ i (j + 1) ⟨sn, si, sj⟩) = E by rw [← HSN2.out (by omega)]; exact HS2.out)
                clear hcm HCM2 HSY2 HSN2 HS2
                ((with_reducible refine (HCM3.out _).mono ?_); rintro e w7 ⟨rfl, hb7⟩)
                have HK := Lib.hid (HJ.out.s.later hb7)
                go_wp2
                go_roundw
                case rel => exact ⟨j + 1, ⟨sn, si, sj⟩, rfl, by go_num, by omega, by omega, HE3.out, hq2.out, HK.out⟩
                case measure => simp [intOf]; omega
          · obtain rfl : j = ls.length := by omega
            have HS2 := Lib.hid hs2.out
            rw [HEN.out i s2] at HS2
            clear hs2
            go_wp2
            go_roundw
            case rel => exact ⟨i + 1, s2, rfl, by go_num, by omega, HS2.out, hq2.out, hI2.out⟩
            case measure => simp [intOf]; omega
      · obtain rfl : i = ls.length := by omega
        have hs := hs.out
        rw [HEA.out s] at hs
        subst hs
        have HI := Lib.hid hI.out
        obtain ⟨sn, si, sj⟩ := s
        simp only at HI hq HNN ⊢
        clear hI HE HX2 HLS HCR HLG HSZ HCM HRR HST HEN HSA HEA HSY HSN
        by_cases h1 : ls.length = 1
        · have hn := HNN.out
          rw [if_pos h1] at hn
          subst hn
          have HM0 := Lib.hid (fun W (h : Below w.heap.size w W) => by have := HMK.out 0 W h (Nat.le_trans lng_0 (by decide)); rwa [show Lib.itoa 0 = [48] by decide +kernel] at this)
          have y1 : ((ls.length : Int) == 1) = true := by rw [h1]; rfl
          generalize ls.length = ln at *
          generalize rtoa (Rat.divInt 0 D) = R at *
          go_wp2_with fail
          ((with_reducible refine (HM0.out _ HI.out.w).mono ?_); rintro e w7 ⟨rfl, hb7⟩)
          have HK := Lib.hid (HI.out.later hb7)
          obtain ⟨d0, d1⟩ := c2row HK.out.o
          obtain ⟨e0, e1⟩ := c2row HK.out.r
          have hf := fun k => free_row HK.out.r k
          have q1 : ¬ g = w.heap.size + 1 := by have := HG.out; omega
          have q2 : ¬ w.heap.size + 1 = g := by have := HG.out; omega
          clear hb7
          go_wp2_with fail
          go_region
          all_goals
            go_wp2
            refine bodyPost_ret (res_tct rfl (by kernel_rfl) (s2rowd HK.out.r) Tryz.underlying44 rfl (by kernel_rfl) rfl rfl) rfl ?_
            exact ⟨rfl, (b2row HK.out.w (Nat.le_succ _)).drew⟩
        · have hn := HNN.out
          rw [if_neg h1] at hn
          subst hn
          have HM0 := Lib.hid (fun W (h : Below w.heap.size w W) => HMK.out N W h hq.out)
          have y1 : ((ls.length : Int) == 1) = false := by
            rw [beq_eq_false_iff_ne]; omega
          generalize ls.length = ln at *
          generalize rtoa (Rat.divInt N D) = R at *
          go_wp2_with fail
          ((with_reducible refine (HM0.out _ HI.out.w).mono ?_); rintro e w7 ⟨rfl, hb7⟩)
          have HK := Lib.hid (HI.out.later hb7)
          obtain ⟨d0, d1⟩ := c2row HK.out.o
          obtain ⟨e0, e1⟩ := c2row HK.out.r
          have hf := fun k => free_row HK.out.r k
          have q1 : ¬ g = w.heap.size + 1 := by have := HG.out; omega
          have q2 : ¬ w.heap.size + 1 = g := by have := HG.out; omega
          clear hb7
          go_wp2_with fail
          go_region
          all_goals
            go_wp2
            refine bodyPost_ret (res_tct rfl (by kernel_rfl) (s2rowd HK.out.r) Tryz.underlying44 rfl (by kernel_rfl) rfl rfl) rfl ?_
            exact ⟨rfl, (b2row HK.out.w (Nat.le_succ _)).drew⟩
  · rw [if_neg h0]
    generalize highE ls d = E at *
    have z : (E != 0) = true := bne_iff_ne.2 h0
    obtain ⟨sa, cap, rfl⟩ := S.lenS
    obtain ⟨dx, dy, dz⟩ := d
    simp only at hz
    have HZ := Lib.hid hz
    clear hz S h0 hg
    go_enter Tryz.func33, Tryz.ntmps33
    go_wp2_with fail
    generalize (w.alloc (.cells #[.int .i64 dx, .int .i64 dy, .int .i64 dz] 52)).alloc (.cells #[.int .i64 0, .int .i64 0] 44) = W0 at *
    obtain ⟨k0, k1, k2⟩ := c3row HZ.out.d
    go_wp2_with fail
    ((with_reducible refine (HER.out _ HZ.out.w).mono ?_); rintro e w1 ⟨rfl, hb1⟩)
    have HZ1 := Lib.hid (HZ.out.later hb1)
    clear k0 k1 k2 hb1 HZ HER
    obtain ⟨z0, z1⟩ := c2row HZ1.out.r
    have hf := fun k => free_row HZ1.out.r k
    go_wp2
    refine bodyPost_ret (res_tct rfl (by kernel_rfl) (s2row HZ1.out.r) Tryz.underlying44 rfl (by kernel_rfl) rfl rfl) rfl ?_
    exact ⟨rfl, b2row HZ1.out.w (by omega)⟩
end Go.Proofs.Wk
/- SQUARENESS: the spread, in the reference. -/
namespace Go.Proofs.Wk
open Go.RowKit Mt

theorem divInt_lt {a b D : Int} (hD : 0 < D) : Rat.divInt a D < Rat.divInt b D ↔ a < b := by
  have h : ∀ n : Int, Rat.divInt n D * (D : Rat) = (n : Rat) := fun n => by
    rw [Rat.divInt_eq_div, Rat.div_mul_cancel (by intro q; have := Rat.intCast_inj.1 (q.trans Rat.intCast_zero.symm); omega)]
  have hd : (0 : Rat) < (D : Rat) := by have := Rat.intCast_lt_intCast.2 hD; simpa using this
  rw [← Rat.mul_lt_mul_right hd, h, h, Rat.intCast_lt_intCast]
theorem divInt_z (D : Int) : Rat.divInt 0 D = 0 := Rat.zero_divInt D
/-- Three points' boxes. -/
structure ApM (w W : World) (a b d : Or.P3) : Prop where
  a : W.heap[w.heap.size]? = some (.cells #[.int .i64 a.x, .int .i64 a.y, .int .i64 a.z] 52 (0, 0))
  b : W.heap[w.heap.size + 1]? = some (.cells #[.int .i64 b.x, .int .i64 b.y, .int .i64 b.z] 52 (0, 0))
  d : W.heap[w.heap.size + 1 + 1]? = some (.cells #[.int .i64 d.x, .int .i64 d.y, .int .i64 d.z] 52 (0, 0))
  w : Below w.heap.size w W
theorem ApM.later {w W W' : World} {a b d : Or.P3} (h : ApM w W a b d) (hb : Below W.heap.size W W') : ApM w W' a b d := ⟨keepD h.a hb, keepD h.b hb, keepD h.d hb, h.w.nx hb⟩
theorem ApM.drew {w W : World} {a b d : Or.P3} (h : ApM w W a b d) : ApM w W.drew a b d := ⟨h.a, h.b, h.d, h.w.drew⟩
theorem ApM.t {w W : World} {ax ay az bx by_ bz dx dy dz : Int} (h : ApM w W ⟨ax, ay, az⟩ ⟨bx, by_, bz⟩ ⟨dx, dy, dz⟩) :
    W.cell? ⟨w.heap.size, 0, none⟩ = some (.int .i64 ax) ∧ W.cell? ⟨w.heap.size, 1, none⟩ = some (.int .i64 ay) ∧ W.cell? ⟨w.heap.size, 2, none⟩ = some (.int .i64 az) ∧ W.cell? ⟨w.heap.size + 1, 0, none⟩ = some (.int .i64 bx) ∧ W.cell? ⟨w.heap.size + 1, 1, none⟩ = some (.int .i64 by_) ∧ W.cell? ⟨w.heap.size + 1, 2, none⟩ = some (.int .i64 bz) ∧
    W.cell? ⟨w.heap.size + 1 + 1, 0, none⟩ = some (.int .i64 dx) ∧ W.cell? ⟨w.heap.size + 1 + 1, 1, none⟩ = some (.int .i64 dy) ∧ W.cell? ⟨w.heap.size + 1 + 1, 2, none⟩ = some (.int .i64 dz) ∧ ApM w W ⟨ax, ay, az⟩ ⟨bx, by_, bz⟩ ⟨dx, dy, dz⟩ :=
  ⟨(c3row h.a).1, (c3row h.a).2.1, (c3row h.a).2.2, (c3row h.b).1, (c3row h.b).2.1, (c3row h.b).2.2, (c3row h.d).1, (c3row h.d).2.1, (c3row h.d).2.2, h⟩
theorem apM_new (w : World) (a b d : Or.P3) : ApM w (((w.alloc (.cells #[.int .i64 a.x, .int .i64 a.y, .int .i64 a.z] 52)).alloc (.cells #[.int .i64 b.x, .int .i64 b.y, .int .i64 b.z] 52)).alloc (.cells #[.int .i64 d.x, .int .i64 d.y, .int .i64 d.z] 52)) a b d :=
  ⟨keepD (keepD (heap_alloc_new w _) (below_al _ _)) (below_al _ _), keepD (new2 w _ _) (below_al _ _), new3 w _ _ _, bx3 w _ _ _⟩
set_option maxRecDepth 100000 in
set_option maxHeartbeats 2000000 in
theorem rApart_c (a b d : Or.P3) (w : World) (ha : InS a) (hb : InS b) (hd : InS d) (hne : d ≠ ⟨0, 0, 0⟩) : Calls Tryz.prog 145 #[spV a, spV b, spV d] w (Ret w (.string ⟨(rtoa (Rat.divInt (Or.dot (Or.crs (Or.sub a b) d) (Or.crs (Or.sub a b) d)) (Or.dot d d))).toArray⟩)) := by
  have bq : Bd 200000 (Or.sub a b) := (Bd.of ha).sub (Bd.of hb) (by decide)
  have bv : Bd 40000000000 (Or.crs (Or.sub a b) d) := bq.crs (Bd.of hd) (by decide)
  have HLS := Lib.hid (fun W => rLess_c a b 100000 100000 W (Bd.of ha) (Bd.of hb) (by decide))
  have HVC := Lib.hid (fun W => rVector_c (Or.sub a b) d 200000 100000 W bq (Bd.of hd) (by decide))
  have HLV := Lib.hid (fun W => rLongS_c (Or.crs (Or.sub a b) d) W (bv.mono (by decide)))
  have HLD := Lib.hid (fun W => rLongS_c d W ((Bd.of hd).mono (by decide)))
  have HLW := Lib.hid (fun W => Lowest_c (Or.dot (Or.crs (Or.sub a b) d) (Or.crs (Or.sub a b) d)) (Or.dot d d) W (Nat.le_trans (lng_dotV (bv.mono (by decide))) (by decide)) (Nat.le_trans (lng_dotV ((Bd.of hd).mono (by decide))) (by decide)) ((by have := Or.dot_pos hne; omega)))
  have hz := apM_new w a b d
  generalize Rat.divInt (Or.dot (Or.crs (Or.sub a b) d) (Or.crs (Or.sub a b) d)) (Or.dot d d) = R at *
  generalize Lib.itoa (Or.dot (Or.crs (Or.sub a b) d) (Or.crs (Or.sub a b) d)) = TV at *
  generalize Lib.itoa (Or.dot d d) = TD at *
  generalize rtoa R = TR at *
  generalize Or.crs (Or.sub a b) d = v at *
  generalize Or.sub a b = q at *
  obtain ⟨ax, ay, az⟩ := a
  obtain ⟨bx, by_, bz⟩ := b
  obtain ⟨dx, dy, dz⟩ := d
  obtain ⟨qx, qy, qz⟩ := q
  obtain ⟨vx, vy, vz⟩ := v
  have HZ := Lib.hid hz
  clear hz bq bv ha hb hd hne
  go_enter Tryz.func145, Tryz.ntmps145
  go_wp2_with fail
  generalize ((w.alloc (.cells #[.int .i64 ax, .int .i64 ay, .int .i64 az] 52)).alloc (.cells #[.int .i64 bx, .int .i64 by_, .int .i64 bz] 52)).alloc (.cells #[.int .i64 dx, .int .i64 dy, .int .i64 dz] 52) = W0 at *
  obtain ⟨m0, m1, m2, m3, m4, m5, m6, m7, m8, -⟩ := HZ.out.t
  go_region_held3 (fun w' => w'.cell? ⟨w.heap.size, 0, none⟩ = some (.int .i64 ax) ∧ w'.cell? ⟨w.heap.size, 1, none⟩ = some (.int .i64 ay) ∧ w'.cell? ⟨w.heap.size, 2, none⟩ = some (.int .i64 az) ∧ w'.cell? ⟨w.heap.size + 1, 0, none⟩ = some (.int .i64 bx) ∧ w'.cell? ⟨w.heap.size + 1, 1, none⟩ = some (.int .i64 by_) ∧ w'.cell? ⟨w.heap.size + 1, 2, none⟩ = some (.int .i64 bz) ∧
      w'.cell? ⟨w.heap.size + 1 + 1, 0, none⟩ = some (.int .i64 dx) ∧ w'.cell? ⟨w.heap.size + 1 + 1, 1, none⟩ = some (.int .i64 dy) ∧ w'.cell? ⟨w.heap.size + 1 + 1, 2, none⟩ = some (.int .i64 dz) ∧ ApM w w' ⟨ax, ay, az⟩ ⟨bx, by_, bz⟩ ⟨dx, dy, dz⟩)
    (first | exact J5.t | exact J4.t | exact J3.t | exact J2.t | exact J1.t | exact HZ.out.t | exact HZ.out.drew.t)
    (first
      | (go_at_call 58; (with_reducible refine (HLS.out _).mono ?_); rintro e w1 ⟨rfl, hb1⟩; (first | ((with_reducible have J1 := HZ.out.drew.later hb1)) | ((with_reducible have J1 := HZ.out.later hb1))))
      | (go_at_call 59; (with_reducible refine (HVC.out _).mono ?_); rintro e w2 ⟨rfl, hb2⟩; have J2 := J1.later hb2)
      | (go_at_call 161; (with_reducible refine (HLV.out _).mono ?_); rintro e w3 ⟨rfl, hb3⟩; have J3 := J2.later hb3)
      | (go_at_call 161; (with_reducible refine (HLD.out _).mono ?_); rintro e w4 ⟨rfl, hb4⟩; have J4 := J3.later hb4)
      | (go_at_call 194; (with_reducible refine (HLW.out _).mono ?_); rintro e w5 ⟨rfl, hb5⟩; have J5 := J4.later hb5)
      | fail)
  all_goals
    go_wp2
    go_ret
    exact ⟨rfl, J5.w⟩
/-- The best spread till now. -/
def bwQ (D : Int) (s : Or.Spr) : Rat := if s.n < 0 then 0 else Rat.divInt s.n D
theorem bwQ_sz {D : Int} {s : Or.Spr} (h : lng s.n ≤ 42) (hD : lng D ≤ 42) (h0 : D ≠ 0) : szQ (bwQ D s) 42 := by
  unfold bwQ; split
  · exact szQ_zero.mono (by decide)
  · exact szQ_divInt h hD h0
theorem bwQ_spread {ls : List Or.P3} {d : Or.P3} (h : 0 < ls.length) : bwQ (Or.dot d d) (Or.spread ls d) = Rat.divInt (Or.spN ls d) (Or.dot d d) := by
  unfold bwQ Or.spN
  by_cases h1 : ls.length = 1
  · rw [if_pos h1, Or.spread_one h1, if_pos (by decide), divInt_z]
  · rw [if_neg h1, if_neg (by have := Or.spread_two (d := d) (show 2 ≤ ls.length by omega); omega)]
set_option maxRecDepth 100000 in
set_option maxHeartbeats 4000000 in
theorem rWide3_c {v : Value} (ls : List Or.P3) (d : Or.P3) (w : World) (S : SlX w v ls) (l0 : 0 < ls.length) (l64 : ls.length ≤ 64) (hin : ∀ p ∈ ls, InS p) (hd : InS d) (hne : d ≠ ⟨0, 0, 0⟩) :
    Calls Tryz.prog 99 #[v, spV d] w (Ret w (.tuple #[.string ⟨(rtoa (Rat.divInt (Or.spN ls d) (Or.dot d d))).toArray⟩, .agg #[.int .i64 ((Or.spread ls d).i : Int), .int .i64 ((Or.spread ls d).j : Int)]])) := by
  refine S.cases _ ?_ ?_
  · rintro a cap rfl rfl
    simp at l0
  rintro b off cap rfl hp hR hb
  rw [← bwQ_spread l0]
  have HAP := Lib.hid (show ∀ i j, i < ls.length → j < ls.length → ∀ W, Calls Tryz.prog 145 #[spV (Or.at_ ls i), spV (Or.at_ ls j), spV d] W (Ret W (.string ⟨(rtoa (Rat.divInt (Or.wy ls d i j) (Or.dot d d))).toArray⟩)) from fun i j hi hj W => rApart_c (Or.at_ ls i) (Or.at_ ls j) d W (hin _ (Or.at_mem hi)) (hin _ (Or.at_mem hj)) hd hne)
  have HSZ := Lib.hid (fun i j (hi : i < ls.length) (hj : j < ls.length) => wy_lng hd hin hi hj)
  have hDp := Or.dot_pos hne
  have hDl := lng_dotV ((Bd.of hd).mono (show 100000 ≤ 4000000000000000000 by decide))
  have HOR := Lib.hid (fun m (s : Or.Spr) W (hm : lng m ≤ 42) (hs : lng s.n ≤ 42) => Order_q (Rat.divInt m (Or.dot d d)) (bwQ (Or.dot d d) s) W ((szQ_divInt hm hDl (by omega)).mono (by decide)) ((bwQ_sz hs hDl (by omega)).mono (by decide)))
  have HCM := Lib.hid (fun m (s : Or.Spr) (h : ¬ s.n < 0) => show decide (0 < cmpQ (Rat.divInt m (Or.dot d d)) (bwQ (Or.dot d d) s)) = decide (s.n < m) by
    rw [cmpQ_gt]
    unfold bwQ
    rw [if_neg h]
    exact decide_eq_decide.2 (divInt_lt hDp))
  have HNN := Lib.hid (fun i j => Or.wy_nonneg ls d i j)
  have HRR := Lib.hid (fun (W : World) (h : Below w.heap.size w W) (k : Nat) (hk : k < ls.length) => (hR.later h hb).spAt hk)
  have hE : Or.spA ls d 0 ⟨-1, 0, 0⟩ = Or.spread ls d := rfl
  have HST := Lib.hid (fun i j s (hj : j < ls.length) => Or.spR_step (l := ls) (d := d) (i := i) (j := j) (s := s) hj)
  have HEN := Lib.hid (fun i s => Or.spR_end (l := ls) (d := d) (i := i) (j := ls.length) (s := s) (Nat.le_refl _))
  have HSA := Lib.hid (fun i s (hi : i < ls.length) => Or.spA_step (l := ls) (d := d) (i := i) (s := s) hi)
  have HEA := Lib.hid (fun s => Or.spA_end (l := ls) (d := d) (i := ls.length) (s := s) (Nat.le_refl _))
  have HSY := Lib.hid (fun i j s => @spS_yes ls d i j s)
  have HSN := Lib.hid (fun i j s => @spS_no ls d i j s)
  have hz := drM_new w #[.int .i64 d.x, .int .i64 d.y, .int .i64 d.z] 52
  have hAx : AxM w (((w.alloc (.cells #[.int .i64 d.x, .int .i64 d.y, .int .i64 d.z] 52)).alloc (.cells #[.int .i64 0, .int .i64 0] 44)).alloc (.cells #[.int .i64 0, .int .i64 0] 44)) d (w.heap.size + 1 + 1) 0 0 := by
    have := axM_new (d := d) hz
    rwa [show ((w.alloc (.cells #[.int .i64 d.x, .int .i64 d.y, .int .i64 d.z] 52)).alloc (.cells #[.int .i64 0, .int .i64 0] 44)).heap.size = w.heap.size + 1 + 1 by rw [World.size_alloc, World.size_alloc]] at this
  generalize Or.spread ls d = E at *
  generalize hDD : Or.dot d d = D at *
  have HE := Lib.hid hE
  obtain ⟨dx, dy, dz⟩ := d
  simp only at hAx
  have HX := Lib.hid hAx
  clear hz hAx S hin hd hne hE hR hp hb hDD hDp hDl l0
  go_enter Tryz.func99, Tryz.ntmps99
  go_wp2_with fail
  generalize ((w.alloc (.cells #[.int .i64 dx, .int .i64 dy, .int .i64 dz] 52)).alloc (.cells #[.int .i64 0, .int .i64 0] 44)).alloc (.cells #[.int .i64 0, .int .i64 0] 44) = W0 at *
  go_loopw [6, 8, 9] (fun sq sf si wr => ∃ (i : Nat) (s : Or.Spr), sq = .string ⟨(rtoa (bwQ D s)).toArray⟩ ∧ sf = .bool (decide (0 ≤ s.n)) ∧ si = .int .i64 (i : Int) ∧ i ≤ ls.length ∧ Hid (Or.spA ls ⟨dx, dy, dz⟩ i s = E) ∧ Hid (lng s.n ≤ 42) ∧ Hid (AxM w wr ⟨dx, dy, dz⟩ (w.heap.size + 1 + 1) s.i s.j)) (fun _ _ si _ => ls.length - (intOf si).toNat)
  case atStart => exact ⟨0, ⟨-1, 0, 0⟩, by rw [show bwQ D ⟨-1, 0, 0⟩ = 0 from rfl, rtoa_zero], rfl, rfl, Nat.zero_le _, HE.out, lng_m1, HX.out⟩
  case round =>
    obtain ⟨i, s, rfl, rfl, rfl, hi, hs, hq, hI⟩ := hrel
    by_cases hlt : i < ls.length
    · have HS := Lib.hid ((HSA.out i s hlt).symm.trans hs.out)
      clear hs
      go_wp2_with fail
      go_loopw [6, 8, 10] (fun sq sf sj wr => ∃ (j : Nat) (s : Or.Spr), sq = .string ⟨(rtoa (bwQ D s)).toArray⟩ ∧ sf = .bool (decide (0 ≤ s.n)) ∧ sj = .int .i64 (j : Int) ∧ i < j ∧ j ≤ ls.length ∧ Hid (Or.spA ls ⟨dx, dy, dz⟩ (i + 1) (Or.spR ls ⟨dx, dy, dz⟩ i j s) = E) ∧ Hid (lng s.n ≤ 42) ∧ Hid (AxM w wr ⟨dx, dy, dz⟩ (w.heap.size + 1 + 1) s.i s.j)) (fun _ _ sj _ => ls.length - (intOf sj).toNat)
      case atStart => exact ⟨i + 1, s, rfl, rfl, by go_num, by omega, by omega, HS.out, hq.out, hI.out⟩
      case round =>
        clear HS hq hI
        obtain ⟨j, s2, rfl, rfl, rfl, hij, hj, hs2, hq2, hI2⟩ := hrel
        by_cases hlt2 : j < ls.length
        · have HS2 := Lib.hid (hs2.out)
          have hst := HST.out i j s2 hlt2
          have hap := HAP.out i j hlt hlt2
          have hsz := HSZ.out i j hlt hlt2
          have hsy := HSY.out i j s2
          have hsn := HSN.out i j s2
          have hnn := HNN.out i j
          have hor := fun W => HOR.out (Or.wy ls ⟨dx, dy, dz⟩ i j) s2 W hsz hq2.out
          have hcm := HCM.out (Or.wy ls ⟨dx, dy, dz⟩ i j) s2
          have hR0 : AxR w wr b (off + i * 3) (off + j * 3) ⟨dx, dy, dz⟩ (Or.at_ ls i) (Or.at_ ls j) (w.heap.size + 1 + 1) s2.i s2.j := ⟨hI2.out, HRR.out _ hI2.out.w i hlt, HRR.out _ hI2.out.w j hlt2⟩
          have hbm : bwQ D ⟨Or.wy ls ⟨dx, dy, dz⟩ i j, i, j⟩ = Rat.divInt (Or.wy ls ⟨dx, dy, dz⟩ i j) D := if_neg (by simp only; omega)
          generalize Or.wy ls ⟨dx, dy, dz⟩ i j = m at *
          generalize cmpQ (Rat.divInt m D) (bwQ D s2) = cc at *
          generalize Or.at_ ls i = a at *
          generalize Or.at_ ls j = c at *
          obtain ⟨ax, ay, az⟩ := a
          obtain ⟨cx, cy, cz⟩ := c
          rw [hst] at HS2
          have HAP2 := Lib.hid hap
          have HSY2 := Lib.hid hsy
          have HSN2 := Lib.hid hsn
          have HOR2 := Lib.hid hor
          have HCM2 := Lib.hid hcm
          have HSZ2 := Lib.hid hsz
          have HBM := Lib.hid hbm
          have HN2 := Lib.hid hnn
          have HR0 := Lib.hid hR0
          have HQQ := Lib.hid hq2.out
          generalize hT : rtoa (bwQ D s2) = T at *
          have HT := Lib.hid hT
          generalize hM : rtoa (Rat.divInt m D) = TM at *
          have HMT := Lib.hid hM
          have i0 : (0 : Int) ≤ (i : Int) := by omega
          have i1 : (i : Int) < (ls.length : Int) := by omega
          have j0 : (0 : Int) ≤ (j : Int) := by omega
          have j1 : (j : Int) < (ls.length : Int) := by omega
          obtain ⟨sn, si, sj⟩ := s2
          simp only at HR0 HSY2 HSN2 HCM2 HQQ
          clear hap hsy hsn hor hcm hsz hR0 hst hs2 hI2 hT hM hbm hnn hq2
          go_wp2_with fail
          go_region_held3 (fun w' => w'.cell? ⟨w.heap.size, 0, none⟩ = some (.int .i64 dx) ∧ w'.cell? ⟨w.heap.size, 1, none⟩ = some (.int .i64 dy) ∧ w'.cell? ⟨w.heap.size, 2, none⟩ = some (.int .i64 dz) ∧
              w'.cell? ⟨b, off + i * 3, none⟩ = some (.int .i64 ax) ∧ w'.cell? ⟨b, off + i * 3 + 1, none⟩ = some (.int .i64 ay) ∧ w'.cell? ⟨b, off + i * 3 + 2, none⟩ = some (.int .i64 az) ∧ w'.cell? ⟨b, off + j * 3, none⟩ = some (.int .i64 cx) ∧ w'.cell? ⟨b, off + j * 3 + 1, none⟩ = some (.int .i64 cy) ∧ w'.cell? ⟨b, off + j * 3 + 2, none⟩ = some (.int .i64 cz) ∧
              AxR w w' b (off + i * 3) (off + j * 3) ⟨dx, dy, dz⟩ ⟨ax, ay, az⟩ ⟨cx, cy, cz⟩ (w.heap.size + 1 + 1) si sj)
            (first | exact J1.t | exact HR0.out.t | exact HR0.out.drew.t)
            (first
              | (go_at_call 145; (with_reducible refine (HAP2.out _).mono ?_); rintro e w4 ⟨rfl, hb4⟩; (first | (have J1 := HR0.out.drew.later hb4) | (have J1 := HR0.out.later hb4)))
              | fail)
          all_goals
            have HJ := Lib.hid J1.s
            clear J1 HR0 hb4
            obtain ⟨d0, d1⟩ := c2row HJ.out.o
            have hf := fun k => free_row HJ.out.o k
            have hgg : w.heap.size + 1 < w.heap.size + 1 + 1 := Nat.lt_succ_self _
            by_cases hfd : sn < 0
            · have z1 : decide (0 ≤ sn) = false := decide_eq_false (by omega)
              have HE3 := Lib.hid (show Or.spA ls ⟨dx, dy, dz⟩ (i + 1) (Or.spR ls ⟨dx, dy, dz⟩ i (j + 1) ⟨m, i, j⟩) = E by rw [← HSY2.out (by have := HN2.out; omega)]; exact HS2.out)
              have HD3 := Lib.hid (show decide (0 ≤ m) = true from decide_eq_true HN2.out)
              clear HCM2 HSY2 HSN2 HS2 HOR2 hfd
              rw [z1]
              go_wp2
              go_roundw
              case rel => exact ⟨j + 1, ⟨m, i, j⟩, by rw [HBM.out, HMT.out], by rw [HD3.out], by go_num, by omega, by omega, HE3.out, HSZ2.out, HJ.out.put hgg _ _⟩
              case measure => simp [intOf]; omega
            · have z1 : decide (0 ≤ sn) = true := decide_eq_true (by omega)
              have hcl := HCM2.out (by omega)
              rw [z1]
              clear HCM2
              go_wp2_with fail
              ((with_reducible refine (HOR2.out _).mono ?_); rintro e w5 ⟨rfl, hb5⟩)
              have HK := Lib.hid (HJ.out.later hb5)
              clear HJ hb5 d0 d1 hf HOR2
              obtain ⟨d0, d1⟩ := c2row HK.out.o
              have hf := fun k => free_row HK.out.o k
              rcases Int.lt_or_le 0 cc with ho | ho
              · rw [decide_eq_true ho] at hcl
                have hlt3 : sn < m := of_decide_eq_true hcl.symm
                have HE3 := Lib.hid (show Or.spA ls ⟨dx, dy, dz⟩ (i + 1) (Or.spR ls ⟨dx, dy, dz⟩ i (j + 1) ⟨m, i, j⟩) = E by rw [← HSY2.out hlt3]; exact HS2.out)
                have HD3 := Lib.hid (show decide (0 ≤ m) = true from decide_eq_true HN2.out)
                clear HSY2 HSN2 HS2 hcl hlt3 z1
                go_wp2
                go_roundw
                case rel => exact ⟨j + 1, ⟨m, i, j⟩, by rw [HBM.out, HMT.out], by rw [HD3.out], by go_num, by omega, by omega, HE3.out, HSZ2.out, HK.out.put hgg _ _⟩
                case measure => simp [intOf]; omega
              · rw [decide_eq_false (by omega)] at hcl
                have hlt3 : ¬ sn < m := of_decide_eq_false hcl.symm
                have HE3 := Lib.hid (show Or.spA ls ⟨dx, dy, dz⟩ (i + 1) (Or.spR ls ⟨dx, dy, dz⟩ i (j + 1) ⟨sn, si, sj⟩) = E by rw [← HSN2.out (by omega)]; exact HS2.out)
                have HD3 := Lib.hid z1
                clear HSY2 HSN2 HS2 hcl hlt3 z1
                go_wp2
                go_roundw
                case rel => exact ⟨j + 1, ⟨sn, si, sj⟩, by rw [HT.out], by rw [HD3.out], by go_num, by omega, by omega, HE3.out, HQQ.out, HK.out⟩
                case measure => simp [intOf]; omega
        · obtain rfl : j = ls.length := by omega
          have HS2 := Lib.hid hs2.out
          rw [HEN.out i s2] at HS2
          clear hs2
          go_wp2
          go_roundw
          case rel => exact ⟨i + 1, s2, rfl, rfl, by go_num, by omega, HS2.out, hq2.out, hI2.out⟩
          case measure => simp [intOf]; omega
    · obtain rfl : i = ls.length := by omega
      have hs := hs.out
      rw [HEA.out s] at hs
      subst hs
      have HI := Lib.hid hI.out
      generalize rtoa (bwQ D s) = R at *
      generalize decide (0 ≤ s.n) = fd at *
      obtain ⟨sn, si, sj⟩ := s
      simp only at HI ⊢
      obtain ⟨d0, d1⟩ := c2row HI.out.o
      obtain ⟨e0, e1⟩ := c2row HI.out.r
      have hf := fun k => free_row HI.out.r k
      clear hI HE HX HAP HSZ HOR HCM HNN HRR HST HEN HSA HEA HSY HSN
      go_wp2_with fail
      go_region
      all_goals
        go_wp2
        refine bodyPost_ret (res_tc rfl (by kernel_rfl) (s2rowd HI.out.r) Tryz.underlying44 rfl (by kernel_rfl) rfl) rfl ?_
        exact ⟨rfl, (b2row HI.out.w (Nat.le_succ _)).drew⟩
set_option maxRecDepth 100000 in
set_option maxHeartbeats 2000000 in
theorem rAxis_c {v : Value} (ls : List Or.P3) (d : Or.P3) (w : World) (S : SlX w v ls) (hln : ls.length ≤ 140737488355328) : Calls Tryz.prog 34 #[v, spV d] w (Ret w (axV ls d)) := by
  have HER := Lib.hid (fun W (h : Below w.heap.size w W) => rHigh_c ls d W (S.later h) hln)
  have hz := drM_new w #[.int .i64 d.x, .int .i64 d.y, .int .i64 d.z] 52
  unfold axV
  by_cases h0 : highE ls d = 0
  · obtain ⟨l0, l64, hin, hd, hne⟩ := highE_ok h0
    have HLN := Lib.hid (fun W (h : Below w.heap.size w W) => rWide3_c ls d W (S.later h) l0 l64 hin hd hne)
    rw [h0] at HER
    rw [if_pos h0]
    generalize rtoa (Rat.divInt (Or.spN ls d) (Or.dot d d)) = R at *
    generalize Or.spread ls d = e at *
    obtain ⟨en, a0, a1⟩ := e
    obtain ⟨sa, cap, rfl⟩ := S.lenS
    obtain ⟨dx, dy, dz⟩ := d
    simp only at hz HLN ⊢
    have HZ := Lib.hid hz
    clear hz S h0 hin hd hne
    go_enter Tryz.func34, Tryz.ntmps34
    go_wp2_with fail
    generalize (w.alloc (.cells #[.int .i64 dx, .int .i64 dy, .int .i64 dz] 52)).alloc (.cells #[.int .i64 0, .int .i64 0] 44) = W0 at *
    obtain ⟨k0, k1, k2⟩ := c3row HZ.out.d
    go_wp2_with fail
    ((with_reducible refine (HER.out _ HZ.out.w).mono ?_); rintro e w1 ⟨rfl, hb1⟩)
    have HZ1 := Lib.hid (HZ.out.later hb1)
    clear k0 k1 k2 hb1 HZ HER
    obtain ⟨k0, k1, k2⟩ := c3row HZ1.out.d
    go_wp2_with fail
    ((with_reducible refine (HLN.out _ HZ1.out.w).mono ?_); rintro e w2 ⟨rfl, hb2⟩)
    have hA2 := below_al w2 (.cells #[.int .i64 (a0 : Int), .int .i64 (a1 : Int)] 44)
    have HZ2 := Lib.hid ((HZ1.out.later hb2).later hA2)
    have HN2 := Lib.hid (heap_alloc_new w2 (.cells #[.int .i64 (a0 : Int), .int .i64 (a1 : Int)] 44))
    have HG2 := Lib.hid (show w.heap.size + 1 < w2.heap.size from (Array.getElem?_eq_some_iff.1 (HZ1.out.later hb2).r).1)
    clear k0 k1 k2 hb2 HZ1 HLN hA2
    go_wp2_with fail
    generalize w2.alloc (.cells #[.int .i64 (a0 : Int), .int .i64 (a1 : Int)] 44) = w3 at *
    generalize w2.heap.size = g at *
    obtain ⟨m0, m1⟩ := c2row HN2.out
    obtain ⟨z0, z1⟩ := c2row HZ2.out.r
    have hf := fun k => free_row HZ2.out.r k
    have q1 : ¬ g = w.heap.size + 1 := by have := HG2.out; omega
    have q2 : ¬ w.heap.size + 1 = g := by have := HG2.out; omega
    go_region
    all_goals
      go_wp2
      refine bodyPost_ret (res_tct rfl (by kernel_rfl) (s2rowd HZ2.out.r) Tryz.underlying44 rfl (by kernel_rfl) rfl rfl) rfl ?_
      exact ⟨rfl, (b2row HZ2.out.w (by omega)).drew⟩
  · rw [if_neg h0]
    generalize highE ls d = E at *
    have z : (E != 0) = true := bne_iff_ne.2 h0
    obtain ⟨sa, cap, rfl⟩ := S.lenS
    obtain ⟨dx, dy, dz⟩ := d
    simp only at hz
    have HZ := Lib.hid hz
    clear hz S h0
    go_enter Tryz.func34, Tryz.ntmps34
    go_wp2_with fail
    generalize (w.alloc (.cells #[.int .i64 dx, .int .i64 dy, .int .i64 dz] 52)).alloc (.cells #[.int .i64 0, .int .i64 0] 44) = W0 at *
    obtain ⟨k0, k1, k2⟩ := c3row HZ.out.d
    go_wp2_with fail
    ((with_reducible refine (HER.out _ HZ.out.w).mono ?_); rintro e w1 ⟨rfl, hb1⟩)
    have HZ1 := Lib.hid (HZ.out.later hb1)
    clear k0 k1 k2 hb1 HZ HER
    obtain ⟨z0, z1⟩ := c2row HZ1.out.r
    have hf := fun k => free_row HZ1.out.r k
    go_wp2
    refine bodyPost_ret (res_tct rfl (by kernel_rfl) (s2row HZ1.out.r) Tryz.underlying44 rfl (by kernel_rfl) rfl rfl) rfl ?_
    exact ⟨rfl, b2row HZ1.out.w (by omega)⟩
end Go.Proofs.Wk
