/- SQUARENESS: the least upright zone, in the reference. -/
import Derived.Test.YtenoganbeccanaaGreatDoorOL
import Derived.Test.YtenoganbeccanaaGreatDoorSdL
import Derived.Test.YtenoganbeccanaaGreatDoorNF
namespace Go.Proofs.Wk
open Go.RowKit Mt

/-- The best width till now. -/
def uQ (ls : List Or.P3) (d : Or.P3) : Option Or.Sup → Rat | none => 0 | some x => Or.sv ls d x
theorem uQ_wid (ls : List Or.P3) (d : Or.P3) : uQ ls d (Or.least ls d) = Or.wid ls d := by
  unfold Or.wid; cases Or.least ls d <;> rfl
theorem standV_yes {ls : List Or.P3} {d : Or.P3} {i j : Nat} (h : Or.okS ls d i j = true) : standV ls d i j = .tuple #[.string ⟨(rtoa (Or.sv ls d (Or.sup ls d i j))).toArray⟩, .int .i64 ((Or.sup ls d i j).at' : Int), .bool true] := if_pos h
theorem standV_no {ls : List Or.P3} {d : Or.P3} {i j : Nat} (h : Or.okS ls d i j = false) : standV ls d i j = .tuple #[.string ⟨#[]⟩, .int .i64 0, .bool false] := if_neg (by rw [h]; simp)
structure NwM (w W : World) (d : Or.P3) (i j k : Nat) : Prop where
  d : W.heap[w.heap.size]? = some (.cells #[.int .i64 d.x, .int .i64 d.y, .int .i64 d.z] 52 (0, 0))
  r : W.heap[w.heap.size + 1]? = some (.cells #[.int .i64 0, .int .i64 0, .int .i64 0] 57 (0, 0))
  o : W.heap[w.heap.size + 1 + 1]? = some (.cells (prC i j k) 57 (0, 0))
  w : Below w.heap.size w W
theorem NwM.later {w W W' : World} {d : Or.P3} {i j k : Nat} (h : NwM w W d i j k) (hb : Below W.heap.size W W') : NwM w W' d i j k := ⟨keepD h.d hb, keepD h.r hb, keepD h.o hb, h.w.nx hb⟩
theorem NwM.put {w W : World} {d : Or.P3} {i j k : Nat} (h : NwM w W d i j k) (i' j' k' : Nat) : NwM w (((W.setCell ⟨w.heap.size + 1 + 1, 0, none⟩ (.int .i64 (i' : Int))).setCell ⟨w.heap.size + 1 + 1, 1, none⟩ (.int .i64 (j' : Int))).setCell ⟨w.heap.size + 1 + 1, 2, none⟩ (.int .i64 (k' : Int))) d i' j' k' :=
  ⟨(o3row (show w.heap.size ≠ w.heap.size + 1 + 1 by omega)).trans h.d, (o3row (show w.heap.size + 1 ≠ w.heap.size + 1 + 1 by omega)).trans h.r, s3row h.o, b3row h.w (by omega)⟩
theorem nwM_new (w : World) (d : Or.P3) : NwM w (((w.alloc (.cells #[.int .i64 d.x, .int .i64 d.y, .int .i64 d.z] 52)).alloc (.cells #[.int .i64 0, .int .i64 0, .int .i64 0] 57)).alloc (.cells #[.int .i64 0, .int .i64 0, .int .i64 0] 57)) d 0 0 0 :=
  ⟨keepD (keepD (heap_alloc_new w _) (below_al _ _)) (below_al _ _), keepD (new2 w _ _) (below_al _ _), new3 w _ _ _, bx3 w _ _ _⟩
def narV (ls : List Or.P3) (d : Or.P3) : Value := .tuple #[.string ⟨(rtoa (Or.wid ls d)).toArray⟩, .agg (prC (Or.prI (Or.least ls d)) (Or.prJ (Or.least ls d)) (Or.prK (Or.least ls d)))]
set_option maxRecDepth 100000 in
set_option maxHeartbeats 4000000 in
theorem rNarrow_c {v : Value} (ls : List Or.P3) (d : Or.P3) (w : World) (S : SlX w v ls) (hin : ∀ p ∈ ls, InS p) (hd : InS d) (hn : ls.length ≤ 64) :
    Calls Tryz.prog 101 #[v, spV d] w (Ret w (narV ls d)) := by
  have hE : Or.upA ls d 0 none = Or.least ls d := rfl
  have hrv : narV ls d = .tuple #[.string ⟨(rtoa (uQ ls d (Or.least ls d))).toArray⟩, .agg (prC (Or.prI (Or.least ls d)) (Or.prJ (Or.least ls d)) (Or.prK (Or.least ls d)))] := by rw [uQ_wid]; rfl
  rw [hrv]
  clear hrv
  generalize Or.least ls d = E at *
  have HST := Lib.hid (fun (i j : Nat) (hi : i < ls.length) (hj : j < ls.length) (W : World) (h : Below w.heap.size w W) => rStands_c ls d i j W (S.later h) hin hd hi hj hn)
  have HOKX := Lib.hid (fun (i j : Nat) (hi : i < ls.length) (hj : j < ls.length) (h : Or.okS ls d i j = true) => okU_mk hi hj h)
  have HSV := Lib.hid (fun x (h : OkU ls d x) => okU_sz hd hin h)
  have HY := Lib.hid (fun (i j : Nat) (h : Or.okS ls d i j = true) => standV_yes h)
  have HN := Lib.hid (fun (i j : Nat) (h : Or.okS ls d i j = false) => standV_no h)
  have HRY := Lib.hid (fun i j s (hj : j < ls.length) (o : Or.okS ls d i j = true) => Or.upR_yes (i := i) (s := s) hj o)
  have HRN := Lib.hid (fun i j s (hj : j < ls.length) (o : Or.okS ls d i j = false) => Or.upR_no (i := i) (s := s) hj o)
  have HRE := Lib.hid (fun i s => Or.upR_end (l := ls) (d := d) (i := i) (j := ls.length) (s := s) (Nat.le_refl _))
  have HAS := Lib.hid (fun i s (hi : i < ls.length) => Or.upA_step (d := d) (s := s) hi)
  have HAE := Lib.hid (fun s => Or.upA_end (l := ls) (d := d) (i := ls.length) (s := s) (Nat.le_refl _))
  have HBN := Lib.hid (fun x => Or.bet_none ls d x)
  have HBS := Lib.hid (fun x y => Or.bet_some ls d x y)
  have HIJ := Lib.hid (fun i j => Or.sup_ij ls d i j)
  have HZ := Lib.hid (nwM_new w d)
  have HE := Lib.hid hE
  obtain ⟨sa, cap, rfl⟩ := S.lenS
  obtain ⟨dx, dy, dz⟩ := d
  clear hE hin hd S
  go_enter Tryz.func101, Tryz.ntmps101
  go_wp2_with fail
  have hz := HZ.out
  try simp only at hz
  generalize ((w.alloc (.cells #[.int .i64 dx, .int .i64 dy, .int .i64 dz] 52)).alloc (.cells #[.int .i64 0, .int .i64 0, .int .i64 0] 57)).alloc (.cells #[.int .i64 0, .int .i64 0, .int .i64 0] 57) = W0 at *
  go_loopw [6, 8, 9] (fun sq sd si wr => ∃ (i : Nat) (s : Option Or.Sup), sq = .string ⟨(rtoa (uQ ls ⟨dx, dy, dz⟩ s)).toArray⟩ ∧ sd = .bool s.isSome ∧ si = .int .i64 (i : Int) ∧ i ≤ ls.length ∧ Hid (Or.upA ls ⟨dx, dy, dz⟩ i s = E) ∧ Hid (szQ (uQ ls ⟨dx, dy, dz⟩ s) 42) ∧ Hid (NwM w wr ⟨dx, dy, dz⟩ (Or.prI s) (Or.prJ s) (Or.prK s)))
    (fun _ _ si _ => ls.length - (intOf si).toNat)
  case atStart => exact ⟨0, none, by rw [show uQ ls ⟨dx, dy, dz⟩ none = 0 from rfl, rtoa_zero], rfl, rfl, Nat.zero_le _, HE.out, szQ_zero.mono (by decide), hz⟩
  case round =>
    clear hz
    obtain ⟨i, s, rfl, rfl, rfl, hi, hs, hq, hI⟩ := hrel
    by_cases hlt : i < ls.length
    · have HS := Lib.hid ((HAS.out i s hlt).symm.trans hs.out)
      clear hs
      go_wp2_with fail
      go_loopw [6, 8, 10] (fun sq sd sj wr => ∃ (j : Nat) (s : Option Or.Sup), sq = .string ⟨(rtoa (uQ ls ⟨dx, dy, dz⟩ s)).toArray⟩ ∧ sd = .bool s.isSome ∧ sj = .int .i64 (j : Int) ∧ i < j ∧ j ≤ ls.length ∧ Hid (Or.upA ls ⟨dx, dy, dz⟩ (i + 1) (Or.upR ls ⟨dx, dy, dz⟩ i j s) = E) ∧ Hid (szQ (uQ ls ⟨dx, dy, dz⟩ s) 42) ∧ Hid (NwM w wr ⟨dx, dy, dz⟩ (Or.prI s) (Or.prJ s) (Or.prK s)))
        (fun _ _ sj _ => ls.length - (intOf sj).toNat)
      case atStart => exact ⟨i + 1, s, rfl, rfl, by go_num, by omega, by omega, HS.out, hq.out, hI.out⟩
      case round =>
        clear HS hq hI
        obtain ⟨j, s2, rfl, rfl, rfl, hij, hj, hs2, hq2, hI2⟩ := hrel
        by_cases hlt2 : j < ls.length
        · have hst2 := hs2.out
          have HSP := Lib.hid (HST.out i j hlt hlt2)
          have hry := HRY.out i j s2 hlt2
          have hrn := HRN.out i j s2 hlt2
          have HYY := Lib.hid (HY.out i j)
          have HNN := Lib.hid (HN.out i j)
          obtain ⟨d0, d1, d2⟩ := c3row hI2.out.d
          generalize hT : rtoa (uQ ls ⟨dx, dy, dz⟩ s2) = TQ at *
          have HT := Lib.hid hT
          clear hT hs2
          cases hok : Or.okS ls ⟨dx, dy, dz⟩ i j with
          | false =>
            have HS2 := Lib.hid ((congrArg (Or.upA ls ⟨dx, dy, dz⟩ (i + 1)) (hrn hok)).symm.trans hst2)
            have hsv := HNN.out hok
            generalize standV ls ⟨dx, dy, dz⟩ i j = sv at *
            subst hsv
            clear hst2 hok hry hrn HYY HNN
            go_wp2_with fail
            ((with_reducible refine (HSP.out _ hI2.out.w).mono ?_); rintro e w1 ⟨rfl, hb1⟩)
            have HI3 := Lib.hid (hI2.out.later hb1)
            clear hI2 d0 d1 d2 hb1
            go_wp2
            go_roundw
            case rel => exact ⟨j + 1, s2, by rw [HT.out], rfl, by go_num, by omega, by omega, HS2.out, hq2.out, HI3.out⟩
            case measure => simp [intOf]; omega
          | true =>
            have hst3 := (congrArg (Or.upA ls ⟨dx, dy, dz⟩ (i + 1)) (hry hok)).symm.trans hst2
            have hsv := HYY.out hok
            have hox := HOKX.out i j hlt hlt2 hok
            have hsz := HSV.out _ hox
            have hij2 := HIJ.out i j
            generalize standV ls ⟨dx, dy, dz⟩ i j = sv at *
            subst hsv
            clear hst2 hok hry hrn HYY HNN hox
            generalize Or.sup ls ⟨dx, dy, dz⟩ i j = x at *
            have hO := fun W => Order_q (Or.sv ls ⟨dx, dy, dz⟩ x) (uQ ls ⟨dx, dy, dz⟩ s2) W (hsz.mono (by decide)) (hq2.out.mono (by decide))
            have hcl := cmpQ_lt (Or.sv ls ⟨dx, dy, dz⟩ x) (uQ ls ⟨dx, dy, dz⟩ s2)
            have hbn := HBN.out x
            have hbs := fun y => HBS.out x y
            generalize cmpQ (Or.sv ls ⟨dx, dy, dz⟩ x) (uQ ls ⟨dx, dy, dz⟩ s2) = cc at *
            rw [HT.out] at hO
            generalize hT2 : rtoa (Or.sv ls ⟨dx, dy, dz⟩ x) = T2 at *
            have HT2 := Lib.hid hT2
            have HO := Lib.hid hO
            have HCL := Lib.hid hcl
            have HB0 := Lib.hid hbn
            have HB1 := Lib.hid hbs
            have HS3 := Lib.hid hst3
            have HSZ := Lib.hid hsz
            obtain ⟨rfl, rfl⟩ := hij2
            obtain ⟨xi, xj, xf, xa⟩ := x
            simp only at hlt hlt2 hij hi hj hI2 HS3
            clear hO hcl hT2 hbn hbs hst3 hsz
            go_wp2_with fail
            ((with_reducible refine (HSP.out _ hI2.out.w).mono ?_); rintro e w1 ⟨rfl, hb1⟩)
            have HI3 := Lib.hid (hI2.out.later hb1)
            clear hI2 HSP d0 d1 d2 hb1
            obtain ⟨o0, o1, o2⟩ := c3row HI3.out.o
            have hf := fun k => free_row HI3.out.o k
            rcases s2 with _ | y
            · have HS4 := Lib.hid (show Or.upA ls ⟨dx, dy, dz⟩ (xi + 1) (Or.upR ls ⟨dx, dy, dz⟩ xi (xj + 1) (some ⟨xi, xj, xf, xa⟩)) = E by rw [← HB0.out]; exact HS3.out)
              clear HB0 HB1 HS3 HCL HO
              go_wp2
              go_roundw
              case rel => exact ⟨xj + 1, some ⟨xi, xj, xf, xa⟩, by rw [← HT2.out]; rfl, rfl, by go_num, by omega, by omega, HS4.out, HSZ.out, HI3.out.put _ _ _⟩
              case measure => simp [intOf]; omega
            · go_wp2_with fail
              ((with_reducible refine (HO.out _).mono ?_); rintro e w3 ⟨rfl, hb3⟩)
              have HK := Lib.hid (HI3.out.later hb3)
              clear HI3 o0 o1 o2 hf hb3
              obtain ⟨o0, o1, o2⟩ := c3row HK.out.o
              have hf := fun k => free_row HK.out.o k
              have hcl := HCL.out
              rcases Int.lt_or_le cc 0 with ho | ho
              · rw [decide_eq_true ho] at hcl
                have HS4 := Lib.hid (show Or.upA ls ⟨dx, dy, dz⟩ (xi + 1) (Or.upR ls ⟨dx, dy, dz⟩ xi (xj + 1) (some ⟨xi, xj, xf, xa⟩)) = E by
                  have h1 := (HB1.out y).trans (if_pos (of_decide_eq_true hcl.symm))
                  rw [← h1]; exact HS3.out)
                clear HB0 HB1 HS3 HCL HO hcl
                go_wp2
                go_roundw
                case rel => exact ⟨xj + 1, some ⟨xi, xj, xf, xa⟩, by rw [← HT2.out]; rfl, rfl, by go_num, by omega, by omega, HS4.out, HSZ.out, HK.out.put _ _ _⟩
                case measure => simp [intOf]; omega
              · rw [decide_eq_false (by omega)] at hcl
                have HS4 := Lib.hid (show Or.upA ls ⟨dx, dy, dz⟩ (xi + 1) (Or.upR ls ⟨dx, dy, dz⟩ xi (xj + 1) (some y)) = E by
                  have h1 := (HB1.out y).trans (if_neg (of_decide_eq_false hcl.symm))
                  rw [← h1]; exact HS3.out)
                clear HB0 HB1 HS3 HCL HO hcl
                go_wp2
                go_roundw
                case rel => exact ⟨xj + 1, some y, by rw [HT.out], rfl, by go_num, by omega, by omega, HS4.out, hq2.out, HK.out⟩
                case measure => simp [intOf]; omega
        · obtain rfl : j = ls.length := by omega
          have HS2 := Lib.hid hs2.out
          rw [HRE.out i s2] at HS2
          clear hs2
          go_wp2
          go_roundw
          case rel => exact ⟨i + 1, s2, rfl, rfl, by go_num, by omega, HS2.out, hq2.out, hI2.out⟩
          case measure => simp [intOf]; omega
    · obtain rfl : i = ls.length := by omega
      have hs := hs.out
      rw [HAE.out s] at hs
      subst hs
      have HI := Lib.hid hI.out
      generalize rtoa (uQ ls ⟨dx, dy, dz⟩ s) = R at *
      generalize Or.prI s = pi at *
      generalize Or.prJ s = pj at *
      generalize Or.prK s = pk at *
      generalize s.isSome = fd at *
      obtain ⟨o0, o1, o2⟩ := c3row HI.out.o
      obtain ⟨r0, r1, r2⟩ := c3row HI.out.r
      have hf := fun k => free_row HI.out.r k
      clear hI HE HZ HST HOKX HSV HY HN HRY HRN HRE HAS HAE HBN HBS HIJ
      go_wp2_with fail
      go_region
      all_goals
        go_wp2
        refine bodyPost_ret (res_tc rfl (by kernel_rfl) (s3rowd HI.out.r) Tryz.underlying57 rfl (by kernel_rfl) rfl) rfl ?_
        exact ⟨rfl, (b3row HI.out.w (Nat.le_succ _)).drew⟩
/-- What Upright returns. -/
def upV (ls : List Or.P3) (d : Or.P3) : Value := if highE ls d = 0 then uprV ls d else .tuple #[.string ⟨#[]⟩, .agg #[.int .i64 0, .int .i64 0, .int .i64 0], .int .i64 (highE ls d)]
structure DuM (w W : World) (d : Or.P3) : Prop where
  d : W.heap[w.heap.size]? = some (.cells #[.int .i64 d.x, .int .i64 d.y, .int .i64 d.z] 52 (0, 0))
  r : W.heap[w.heap.size + 1]? = some (.cells #[.int .i64 0, .int .i64 0, .int .i64 0] 57 (0, 0))
  w : Below w.heap.size w W
theorem DuM.later {w W W' : World} {d : Or.P3} (h : DuM w W d) (hb : Below W.heap.size W W') : DuM w W' d := ⟨keepD h.d hb, keepD h.r hb, h.w.nx hb⟩
theorem duM_new (w : World) (d : Or.P3) : DuM w ((w.alloc (.cells #[.int .i64 d.x, .int .i64 d.y, .int .i64 d.z] 52)).alloc (.cells #[.int .i64 0, .int .i64 0, .int .i64 0] 57)) d := ⟨keepD (heap_alloc_new w _) (below_al _ _), new2 w _ _, bx2 w _ _⟩
set_option maxRecDepth 100000 in
set_option maxHeartbeats 2000000 in
theorem rUpright_c {v : Value} (ls : List Or.P3) (d : Or.P3) (w : World) (S : SlX w v ls) (hln : ls.length ≤ 140737488355328) : Calls Tryz.prog 36 #[v, spV d] w (Ret w (upV ls d)) := by
  have HER := Lib.hid (fun W (h : Below w.heap.size w W) => rHigh_c ls d W (S.later h) hln)
  have hz := duM_new w d
  by_cases h0 : highE ls d = 0
  · obtain ⟨l0, l64, hin, hd, hne⟩ := highE_ok h0
    have HLN := Lib.hid (fun W (h : Below w.heap.size w W) => rNarrow_c ls d W (S.later h) hin hd l64)
    rw [h0] at HER
    rw [show upV ls d = uprV ls d from if_pos h0]
    unfold narV at HLN
    unfold uprV
    generalize rtoa (Or.wid ls d) = R at *
    generalize Or.prI (Or.least ls d) = pi at *
    generalize Or.prJ (Or.least ls d) = pj at *
    generalize Or.prK (Or.least ls d) = pk at *
    obtain ⟨sa, cap, rfl⟩ := S.lenS
    obtain ⟨dx, dy, dz⟩ := d
    simp only at hz
    have HZ := Lib.hid hz
    clear hz S h0 hin hd hne
    go_enter Tryz.func36, Tryz.ntmps36
    go_wp2_with fail
    generalize (w.alloc (.cells #[.int .i64 dx, .int .i64 dy, .int .i64 dz] 52)).alloc (.cells #[.int .i64 0, .int .i64 0, .int .i64 0] 57) = W0 at *
    obtain ⟨k0, k1, k2⟩ := c3row HZ.out.d
    go_wp2_with fail
    ((with_reducible refine (HER.out _ HZ.out.w).mono ?_); rintro e w1 ⟨rfl, hb1⟩)
    have HZ1 := Lib.hid (HZ.out.later hb1)
    clear k0 k1 k2 hb1 HZ HER
    obtain ⟨k0, k1, k2⟩ := c3row HZ1.out.d
    go_wp2_with fail
    ((with_reducible refine (HLN.out _ HZ1.out.w).mono ?_); rintro e w2 ⟨rfl, hb2⟩)
    have hA2 := below_al w2 (.cells (prC pi pj pk) 57)
    have HZ2 := Lib.hid ((HZ1.out.later hb2).later hA2)
    have HN2 := Lib.hid (heap_alloc_new w2 (.cells (prC pi pj pk) 57))
    have HG2 := Lib.hid (show w.heap.size + 1 < w2.heap.size from (Array.getElem?_eq_some_iff.1 (HZ1.out.later hb2).r).1)
    clear k0 k1 k2 hb2 HZ1 HLN hA2
    go_wp2_with fail
    generalize w2.alloc (.cells (prC pi pj pk) 57) = w3 at *
    generalize w2.heap.size = g at *
    obtain ⟨m0, m1, m2⟩ := c3row HN2.out
    obtain ⟨z0, z1, z2⟩ := c3row HZ2.out.r
    have hf := fun k => free_row HZ2.out.r k
    have q1 : ¬ g = w.heap.size + 1 := by have := HG2.out; omega
    have q2 : ¬ w.heap.size + 1 = g := by have := HG2.out; omega
    go_region
    all_goals
      go_wp2
      refine bodyPost_ret (res_tct rfl (by kernel_rfl) (s3rowd HZ2.out.r) Tryz.underlying57 rfl (by kernel_rfl) rfl rfl) rfl ?_
      exact ⟨rfl, (b3row HZ2.out.w (by omega)).drew⟩
  · obtain ⟨RV, hrv⟩ : ∃ r, upV ls d = r := ⟨_, rfl⟩
    have hrv2 := hrv.symm.trans (if_neg h0)
    rw [hrv]
    subst hrv2
    clear hrv
    generalize highE ls d = E at *
    have z : (E != 0) = true := bne_iff_ne.2 h0
    obtain ⟨sa, cap, rfl⟩ := S.lenS
    obtain ⟨dx, dy, dz⟩ := d
    simp only at hz
    have HZ := Lib.hid hz
    clear hz S h0
    go_enter Tryz.func36, Tryz.ntmps36
    go_wp2_with fail
    generalize (w.alloc (.cells #[.int .i64 dx, .int .i64 dy, .int .i64 dz] 52)).alloc (.cells #[.int .i64 0, .int .i64 0, .int .i64 0] 57) = W0 at *
    obtain ⟨k0, k1, k2⟩ := c3row HZ.out.d
    go_wp2_with fail
    ((with_reducible refine (HER.out _ HZ.out.w).mono ?_); rintro e w1 ⟨rfl, hb1⟩)
    have HZ1 := Lib.hid (HZ.out.later hb1)
    clear k0 k1 k2 hb1 HZ HER
    obtain ⟨z0, z1, z2⟩ := c3row HZ1.out.r
    have hf := fun k => free_row HZ1.out.r k
    go_wp2
    refine bodyPost_ret (res_tct rfl (by kernel_rfl) (s3row HZ1.out.r) Tryz.underlying57 rfl (by kernel_rfl) rfl rfl) rfl ?_
    exact ⟨rfl, b3row HZ1.out.w (by omega)⟩
set_option maxRecDepth 100000 in
set_option maxHeartbeats 2000000 in
theorem Upright_c {v : Value} (ls : List Or.P3) (d : Or.P3) (w : World) (hg : Good w) (S : SlX w v ls) (hln : ls.length ≤ 140737488355328) : Calls Tryz.prog 35 #[v, spV d] w (Ret w (upV ls d)) := by
  have HER := Lib.hid (fun W (h : Below w.heap.size w W) => ospace_c ls d W (S.later h) hln)
  have hz := duM_new w d
  by_cases h0 : highE ls d = 0
  · obtain ⟨l0, l64, hin, hd, hne⟩ := highE_ok h0
    have HLN := Lib.hid (fun W (h : Below w.heap.size w W) => upright_c ls d W (hg.later h) (S.later h) hin hd l0 l64)
    rw [h0] at HER
    rw [show upV ls d = uprV ls d from if_pos h0]
    unfold uprV at HLN ⊢
    generalize rtoa (Or.wid ls d) = R at *
    generalize Or.prI (Or.least ls d) = pi at *
    generalize Or.prJ (Or.least ls d) = pj at *
    generalize Or.prK (Or.least ls d) = pk at *
    obtain ⟨sa, cap, rfl⟩ := S.lenS
    obtain ⟨dx, dy, dz⟩ := d
    simp only at hz
    have HZ := Lib.hid hz
    clear hz S h0 hin hd hne hg
    go_enter Tryz.func35, Tryz.ntmps35
    go_wp2_with fail
    generalize (w.alloc (.cells #[.int .i64 dx, .int .i64 dy, .int .i64 dz] 52)).alloc (.cells #[.int .i64 0, .int .i64 0, .int .i64 0] 57) = W0 at *
    obtain ⟨k0, k1, k2⟩ := c3row HZ.out.d
    go_wp2_with fail
    ((with_reducible refine (HER.out _ HZ.out.w).mono ?_); rintro e w1 ⟨rfl, hb1⟩)
    have HZ1 := Lib.hid (HZ.out.later hb1)
    clear k0 k1 k2 hb1 HZ HER
    obtain ⟨k0, k1, k2⟩ := c3row HZ1.out.d
    go_wp2_with fail
    ((with_reducible refine (HLN.out _ HZ1.out.w).mono ?_); rintro e w2 ⟨rfl, hb2⟩)
    have HZ2 := Lib.hid (HZ1.out.later hb2)
    clear k0 k1 k2 hb2 HZ1 HLN
    obtain ⟨z0, z1, z2⟩ := c3row HZ2.out.r
    have hf := fun k => free_row HZ2.out.r k
    go_wp2
    refine bodyPost_ret (res_tct rfl (by kernel_rfl) (s3row HZ2.out.r) Tryz.underlying57 rfl (by kernel_rfl) rfl rfl) rfl ?_
    exact ⟨rfl, b3row HZ2.out.w (by omega)⟩
  · obtain ⟨RV, hrv⟩ : ∃ r, upV ls d = r := ⟨_, rfl⟩
    have hrv2 := hrv.symm.trans (if_neg h0)
    rw [hrv]
    subst hrv2
    clear hrv
    generalize highE ls d = E at *
    have z : (E != 0) = true := bne_iff_ne.2 h0
    obtain ⟨sa, cap, rfl⟩ := S.lenS
    obtain ⟨dx, dy, dz⟩ := d
    simp only at hz
    have HZ := Lib.hid hz
    clear hz S h0 hg
    go_enter Tryz.func35, Tryz.ntmps35
    go_wp2_with fail
    generalize (w.alloc (.cells #[.int .i64 dx, .int .i64 dy, .int .i64 dz] 52)).alloc (.cells #[.int .i64 0, .int .i64 0, .int .i64 0] 57) = W0 at *
    obtain ⟨k0, k1, k2⟩ := c3row HZ.out.d
    go_wp2_with fail
    ((with_reducible refine (HER.out _ HZ.out.w).mono ?_); rintro e w1 ⟨rfl, hb1⟩)
    have HZ1 := Lib.hid (HZ.out.later hb1)
    clear k0 k1 k2 hb1 HZ HER
    obtain ⟨z0, z1, z2⟩ := c3row HZ1.out.r
    have hf := fun k => free_row HZ1.out.r k
    go_wp2
    refine bodyPost_ret (res_tct rfl (by kernel_rfl) (s3row HZ1.out.r) Tryz.underlying57 rfl (by kernel_rfl) rfl rfl) rfl ?_
    exact ⟨rfl, b3row HZ1.out.w (by omega)⟩
end Go.Proofs.Wk
/- SQUARENESS: Within, in the program and in the reference. -/
namespace Go.Proofs.Wk
open Go.RowKit Mt

theorem ar2O (a b c d : Int) (w : World) : (Op.equalIn 10000 44 (.agg #[.int .i64 a, .int .i64 b]) (.agg #[.int .i64 c, .int .i64 d])).run Tryz.prog w = .ok (a == c && b == d) w := by
  obtain ⟨i, hi⟩ : ∃ i, Tryz.prog.info? 3 = some i := Option.isSome_iff_exists.1 (by kernel_rfl)
  have hc : Tryz.prog.cellsOf 3 = 1 := by kernel_rfl
  rw [show (10000 : Nat) = 9999 + 1 from rfl, run_equalIn_array w 9999 _ _ Tryz.underlying44 hi, hc]
  have p1 : ∀ (u v : Int) (W : World), (part 3 #[.int .i64 u, .int .i64 v] 0).run Tryz.prog W = .ok (.int .i64 u) W := fun u v W => by simp [part, isAgg, run_underlying Tryz.underlying3]
  have p2 : ∀ (u v : Int) (W : World), (part 3 #[.int .i64 u, .int .i64 v] 1).run Tryz.prog W = .ok (.int .i64 v) W := fun u v W => by simp [part, isAgg, run_underlying Tryz.underlying3]
  have e1 := fun (u v : Int) (W : World) => run_equalIn_int (P := Tryz.prog) W 9998 3 .i64 .i64 u v Tryz.underlying3
  simp only [show List.range 2 = [0, 1] from rfl, Op.eqItems, Nat.zero_mul, Nat.one_mul, Sem.run_bind, p1, p2, Result.andThen_ok, e1, Sem.run_ite]
  cases h1 : (a == c) <;> cases h2 : (b == d) <;> simp
theorem ar2_eql (a b c d : Int) (w : World) : (binOp .eql 44 (.agg #[.int .i64 a, .int .i64 b]) (.agg #[.int .i64 c, .int .i64 d])).run Tryz.prog w = .ok (.bool (a == c && b == d)) w := by
  rw [run_eql_struct, ar2O]; rfl
theorem ar3O (a b e c d f : Int) (w : World) : (Op.equalIn 10000 57 (.agg #[.int .i64 a, .int .i64 b, .int .i64 e]) (.agg #[.int .i64 c, .int .i64 d, .int .i64 f])).run Tryz.prog w = .ok (a == c && (b == d && e == f)) w := by
  obtain ⟨i, hi⟩ : ∃ i, Tryz.prog.info? 3 = some i := Option.isSome_iff_exists.1 (by kernel_rfl)
  have hc : Tryz.prog.cellsOf 3 = 1 := by kernel_rfl
  rw [show (10000 : Nat) = 9999 + 1 from rfl, run_equalIn_array w 9999 _ _ Tryz.underlying57 hi, hc]
  have p1 : ∀ (u v x : Int) (W : World), (part 3 #[.int .i64 u, .int .i64 v, .int .i64 x] 0).run Tryz.prog W = .ok (.int .i64 u) W := fun u v x W => by simp [part, isAgg, run_underlying Tryz.underlying3]
  have p2 : ∀ (u v x : Int) (W : World), (part 3 #[.int .i64 u, .int .i64 v, .int .i64 x] 1).run Tryz.prog W = .ok (.int .i64 v) W := fun u v x W => by simp [part, isAgg, run_underlying Tryz.underlying3]
  have p3 : ∀ (u v x : Int) (W : World), (part 3 #[.int .i64 u, .int .i64 v, .int .i64 x] 2).run Tryz.prog W = .ok (.int .i64 x) W := fun u v x W => by simp [part, isAgg, run_underlying Tryz.underlying3]
  have e1 := fun (u v : Int) (W : World) => run_equalIn_int (P := Tryz.prog) W 9998 3 .i64 .i64 u v Tryz.underlying3
  simp only [show List.range 3 = [0, 1, 2] from rfl, Op.eqItems, Nat.mul_one, Sem.run_bind, p1, p2, p3, Result.andThen_ok, e1, Sem.run_ite]
  cases h1 : (a == c) <;> cases h2 : (b == d) <;> cases h3 : (e == f) <;> simp
theorem ar3_eql (a b e c d f : Int) (w : World) : (binOp .eql 57 (.agg #[.int .i64 a, .int .i64 b, .int .i64 e]) (.agg #[.int .i64 c, .int .i64 d, .int .i64 f])).run Tryz.prog w = .ok (.bool (a == c && (b == d && e == f))) w := by
  rw [run_eql_struct, ar3O]; rfl

/-- What Within asks: the width, and the answer. -/
def wnQ (ls : List Or.P3) (d : Or.P3) (sq : Bool) : Rat := if sq = true then Or.wid ls d else Rat.divInt (((Or.ends (ls.map (Or.dot d))).high - (Or.ends (ls.map (Or.dot d))).low) * ((Or.ends (ls.map (Or.dot d))).high - (Or.ends (ls.map (Or.dot d))).low)) (Or.dot d d)
def wnE (ls : List Or.P3) (d : Or.P3) (sq : Bool) (tol : Int) : Bool × Int :=
  if highE ls d = 0 then (if tol < 0 ∨ 100000 < tol then (false, 2) else (decide (wnQ ls d sq ≤ (tol * tol : Int)), 0)) else (false, highE ls d)
theorem wnE_bad {ls : List Or.P3} {d : Or.P3} {sq : Bool} {tol : Int} (h : ¬ highE ls d = 0) : wnE ls d sq tol = (false, highE ls d) := if_neg h
theorem wnE_tol {ls : List Or.P3} {d : Or.P3} {sq : Bool} {tol : Int} (h : highE ls d = 0) (h2 : tol < 0 ∨ 100000 < tol) : wnE ls d sq tol = (false, 2) := by unfold wnE; rw [if_pos h, if_pos h2]
theorem wnE_ok {ls : List Or.P3} {d : Or.P3} {sq : Bool} {tol : Int} (h : highE ls d = 0) (h2 : ¬ (tol < 0 ∨ 100000 < tol)) : wnE ls d sq tol = (decide (wnQ ls d sq ≤ (tol * tol : Int)), 0) := by unfold wnE; rw [if_pos h, if_neg h2]
theorem wid_szO {ls : List Or.P3} {d : Or.P3} (hd : InS d) (hin : ∀ p ∈ ls, InS p) : szQ (Or.wid ls d) 42 := by
  unfold Or.wid
  cases h : Or.least ls d with
  | none => exact szQ_zero.mono (by decide)
  | some x =>
    obtain ⟨hx, -⟩ := Or.least_some h
    obtain ⟨i, k, -, h1, h2, h3, rfl⟩ := (Or.mem_allS ls d 0 x).1 hx
    exact okU_sz hd hin (okU_mk (show i < ls.length by omega) h2 h3)
theorem par_sz {ls : List Or.P3} {d : Or.P3} (l0 : 0 < ls.length) (hd : InS d) (hne : d ≠ ⟨0, 0, 0⟩) (hin : ∀ p ∈ ls, InS p) :
    szQ (Rat.divInt (((Or.ends (ls.map (Or.dot d))).high - (Or.ends (ls.map (Or.dot d))).low) * ((Or.ends (ls.map (Or.dot d))).high - (Or.ends (ls.map (Or.dot d))).low)) (Or.dot d d)) 42 := by
  obtain ⟨-, -, e3, e4⟩ := Or.ends_spec (l := ls.map (Or.dot d)) (by intro q; have := congrArg List.length q; rw [List.length_map] at this; simp at this; rw [this] at l0; simp at l0)
  have hl : ∀ n ∈ ls.map (Or.dot d), -40000000000 ≤ n ∧ n ≤ 40000000000 := fun n hn => by
    obtain ⟨p, hp, rfl⟩ := List.mem_map.1 hn
    exact dotS_in hd (hin p hp)
  have b3 := hl _ (List.mem_of_getElem? e3)
  have b4 := hl _ (List.mem_of_getElem? e4)
  have := Or.dot_pos hne
  exact szQ_divInt (Nat.le_trans (lngVV (by omega)) (by decide)) (lng_dotV ((Bd.of hd).mono (by decide))) (by omega)
theorem wnQ_sz {ls : List Or.P3} {d : Or.P3} {sq : Bool} (l0 : 0 < ls.length) (hd : InS d) (hne : d ≠ ⟨0, 0, 0⟩) (hin : ∀ p ∈ ls, InS p) : szQ (wnQ ls d sq) 42 := by
  unfold wnQ; split
  · exact wid_szO hd hin
  · exact par_sz l0 hd hne hin
theorem tol_szO {tol : Int} (h : ¬ (tol < 0 ∨ 100000 < tol)) : szQ ((tol * tol : Int) : Rat) 42 := by
  have hm := St.mul_bd (x := tol) (y := tol) (k := 100000) (m := 100000) (by omega) (by omega)
  refine szQ_int (by decide) ?_
  have e : (10 : Nat) ^ 42 > 20000000000 := by decide
  omega
theorem itoa_sq (tol : Int) : Lib.itoa (tol * tol) = rtoa ((tol * tol : Int) : Rat) := (rtoa_int _).symm
set_option maxRecDepth 100000 in
set_option maxHeartbeats 4000000 in
theorem oWithin_c {v : Value} (ls : List Or.P3) (d : Or.P3) (sq : Bool) (tol : Int) (w : World) (hg : Good w) (S : SlX w v ls) (hln : ls.length ≤ 140737488355328) : Calls Tryz.prog 37 #[v, spV d, .bool sq, .int .i64 tol] w (Ret w (bint (wnE ls d sq tol))) := by
  have HG := Lib.hid (fun W (h : Below w.heap.size w W) => hg.later h)
  clear hg
  have HER := Lib.hid (fun W (h : Below w.heap.size w W) => ospace_c ls d W (S.later h) hln)
  have hn := heap_alloc_new w (.cells #[.int .i64 d.x, .int .i64 d.y, .int .i64 d.z] 52)
  have hB := below_al w (.cells #[.int .i64 d.x, .int .i64 d.y, .int .i64 d.z] 52)
  by_cases h0 : highE ls d = 0
  rotate_left
  · rw [wnE_bad h0]
    generalize highE ls d = E at *
    have z : (E != 0) = true := bne_iff_ne.2 h0
    obtain ⟨sa, cap, rfl⟩ := S.lenS
    obtain ⟨dx, dy, dz⟩ := d
    simp only at hn hB
    obtain ⟨k0, k1, k2⟩ := c3row hn
    clear h0 S HG
    go_enter Tryz.func37, Tryz.ntmps37
    go_wp2_with fail
    generalize w.alloc (.cells #[.int .i64 dx, .int .i64 dy, .int .i64 dz] 52) = W at *
    ((with_reducible refine (HER.out _ hB).mono ?_); rintro e w1 ⟨rfl, hb1⟩)
    have hB1 := hB.nx hb1
    clear hn k0 k1 k2
    go_wp2
    go_ret2
    exact ⟨rfl, hB1⟩
  rw [h0] at HER
  obtain ⟨l0, l64, hin, hd, hne⟩ := highE_ok h0
  by_cases ht : tol < 0 ∨ 100000 < tol
  · rw [wnE_tol h0 ht]
    obtain ⟨sa, cap, rfl⟩ := S.lenS
    obtain ⟨dx, dy, dz⟩ := d
    simp only at hn hB
    clear h0 S HG hin hd hne
    have hn2 : ∀ W1, Below (w.alloc (.cells #[.int .i64 dx, .int .i64 dy, .int .i64 dz] 52)).heap.size (w.alloc (.cells #[.int .i64 dx, .int .i64 dy, .int .i64 dz] 52)) W1 → W1.heap[w.heap.size]? = _ := fun W1 h => keepD hn h
    obtain ⟨k0, k1, k2⟩ := c3row hn
    rcases ht with ht | ht
    · go_enter Tryz.func37, Tryz.ntmps37
      go_wp2_with fail
      generalize w.alloc (.cells #[.int .i64 dx, .int .i64 dy, .int .i64 dz] 52) = W at *
      ((with_reducible refine (HER.out _ hB).mono ?_); rintro e w1 ⟨rfl, hb1⟩)
      have hB1 := hB.nx hb1
      clear hn hn2 k0 k1 k2
      go_wp2
      go_ret2
      exact ⟨rfl, hB1⟩
    · have ht2 : ¬ tol < 0 := by omega
      go_enter Tryz.func37, Tryz.ntmps37
      go_wp2_with fail
      generalize w.alloc (.cells #[.int .i64 dx, .int .i64 dy, .int .i64 dz] 52) = W at *
      ((with_reducible refine (HER.out _ hB).mono ?_); rintro e w1 ⟨rfl, hb1⟩)
      have hB1 := hB.nx hb1
      clear hn hn2 k0 k1 k2
      go_wp2
      go_ret2
      exact ⟨rfl, hB1⟩
  rw [wnE_ok h0 ht]
  have szq := wnQ_sz (sq := sq) l0 hd hne hin
  have szt := tol_szO ht
  have htt := St.mul_bd (x := tol) (y := tol) (k := 100000) (m := 100000) (by omega) (by omega)
  have hw : IntKind.i64.wrap (tol * tol) = tol * tol := Go.Proofs.Wk.wr rfl (by omega)
  have HPA := Lib.hid (fun W (h : Below w.heap.size w W) => by have := Parallel_c ls d W (HG.out W h) (S.later h) hln; rwa [show parallelV ls d = _ from if_pos h0] at this)
  have HUP := Lib.hid (fun W (h : Below w.heap.size w W) => upright_c ls d W (HG.out W h) (S.later h) hin hd l0 l64)
  have HWH := Lib.hid (fun W (h : Below w.heap.size w W) => by have := qWhole_c (tol * tol) W (HG.out W h) (by omega) (by omega); rwa [itoa_sq] at this)
  have HCM := Lib.hid (fun W (h : Below w.heap.size w W) => qCmpR (wnQ ls d sq) ((tol * tol : Int) : Rat) W (HG.out W h) (szq.mono (by decide)) (szt.mono (by decide)))
  have hle := cmpQ_le (wnQ ls d sq) ((tol * tol : Int) : Rat)
  generalize decide (wnQ ls d sq ≤ ((tol * tol : Int) : Rat)) = AN at *
  generalize cmpQ (wnQ ls d sq) ((tol * tol : Int) : Rat) = cc at *
  unfold uprV at HUP
  have hwq : wnQ ls d sq = if sq = true then Or.wid ls d else Rat.divInt (((Or.ends (ls.map (Or.dot d))).high - (Or.ends (ls.map (Or.dot d))).low) * ((Or.ends (ls.map (Or.dot d))).high - (Or.ends (ls.map (Or.dot d))).low)) (Or.dot d d) := rfl
  generalize wnQ ls d sq = QQ at *
  generalize rtoa ((tol * tol : Int) : Rat) = TT at *
  generalize Or.wid ls d = QW at *
  generalize Or.prI (Or.least ls d) = pi at *
  generalize Or.prJ (Or.least ls d) = pj at *
  generalize Or.prK (Or.least ls d) = pk at *
  generalize Or.ends (ls.map (Or.dot d)) = EE at *
  generalize Rat.divInt ((EE.high - EE.low) * (EE.high - EE.low)) (Or.dot d d) = QP at *
  generalize EE.a0 = a0 at *
  generalize EE.a1 = a1 at *
  obtain ⟨sa, cap, rfl⟩ := S.lenS
  obtain ⟨dx, dy, dz⟩ := d
  simp only at hn hB
  have t0 : ¬ tol < 0 := by omega
  have t1 : ¬ 100000 < tol := by omega
  have HN := Lib.hid hn
  have HLE := Lib.hid hle
  obtain ⟨k0, k1, k2⟩ := c3row hn
  clear h0 S hin hd hne szq szt htt ht l0 l64 hle hn HG
  go_enter Tryz.func37, Tryz.ntmps37
  go_wp2_with fail
  generalize w.alloc (.cells #[.int .i64 dx, .int .i64 dy, .int .i64 dz] 52) = W at *
  ((with_reducible refine (HER.out _ hB).mono ?_); rintro e w1 ⟨rfl, hb1⟩)
  have hB1 := hB.nx hb1
  have HN1 := Lib.hid (keepD HN.out hb1)
  clear HN k0 k1 k2 hB hb1 HER
  obtain ⟨k0, k1, k2⟩ := c3row HN1.out
  go_wp2_with fail
  ((with_reducible refine (HPA.out _ hB1).mono ?_); rintro e w2 ⟨rfl, hb2⟩)
  have hA2 := below_al w2 (.cells #[.int .i64 (a0 : Int), .int .i64 (a1 : Int)] 44)
  have hB2 := (hB1.nx hb2).nx hA2
  have HN2 := Lib.hid (keepD (keepD HN1.out hb2) hA2)
  clear HN1 k0 k1 k2 hB1 hb2 hA2 HPA
  obtain ⟨k0, k1, k2⟩ := c3row HN2.out
  cases sq with
  | true =>
    obtain rfl : QQ = QW := hwq
    generalize rtoa QQ = TQ at *
    go_wp2_with fail
    generalize w2.alloc (.cells #[.int .i64 (a0 : Int), .int .i64 (a1 : Int)] 44) = w3 at *
    ((with_reducible refine (HUP.out _ hB2).mono ?_); rintro e w4 ⟨rfl, hb4⟩)
    have hB4 := hB2.nx hb4
    clear hB2 hb4 HUP k0 k1 k2 HN2
    go_wp2_with fail
    ((with_reducible refine (HWH.out _ hB4).mono ?_); rintro e w5 ⟨rfl, hb5⟩)
    have hB5 := hB4.nx hb5
    clear hB4 hb5
    go_wp2_with fail
    ((with_reducible refine (HCM.out _ hB5).mono ?_); rintro e w6 ⟨rfl, hb6⟩)
    have hB6 := hB5.nx hb6
    clear hB5 hb6
    rcases Int.lt_or_le 0 cc with hc | hc
    · have hl := HLE.out
      rw [decide_eq_false (by omega)] at hl
      subst hl
      go_wp2
      go_ret2
      exact ⟨rfl, hB6⟩
    · have hl := HLE.out
      rw [decide_eq_true (by omega)] at hl
      subst hl
      go_wp2
      go_ret2
      exact ⟨rfl, hB6⟩
  | false =>
    obtain rfl : QQ = QP := hwq
    generalize rtoa QQ = TQ at *
    go_wp2_with fail
    generalize w2.alloc (.cells #[.int .i64 (a0 : Int), .int .i64 (a1 : Int)] 44) = w3 at *
    ((with_reducible refine (HWH.out _ hB2).mono ?_); rintro e w5 ⟨rfl, hb5⟩)
    have hB5 := hB2.nx hb5
    clear hB2 hb5 k0 k1 k2 HN2
    go_wp2_with fail
    ((with_reducible refine (HCM.out _ hB5).mono ?_); rintro e w6 ⟨rfl, hb6⟩)
    have hB6 := hB5.nx hb6
    clear hB5 hb6
    rcases Int.lt_or_le 0 cc with hc | hc
    · have hl := HLE.out
      rw [decide_eq_false (by omega)] at hl
      subst hl
      go_wp2
      go_ret2
      exact ⟨rfl, hB6⟩
    · have hl := HLE.out
      rw [decide_eq_true (by omega)] at hl
      subst hl
      go_wp2
      go_ret2
      exact ⟨rfl, hB6⟩
set_option maxRecDepth 100000 in
set_option maxHeartbeats 4000000 in
theorem rWithinO_c {v : Value} (ls : List Or.P3) (d : Or.P3) (sq : Bool) (tol : Int) (w : World) (S : SlX w v ls) (hln : ls.length ≤ 140737488355328) : Calls Tryz.prog 38 #[v, spV d, .bool sq, .int .i64 tol] w (Ret w (bint (wnE ls d sq tol))) := by
  have HER := Lib.hid (fun W (h : Below w.heap.size w W) => rHigh_c ls d W (S.later h) hln)
  have hn := heap_alloc_new w (.cells #[.int .i64 d.x, .int .i64 d.y, .int .i64 d.z] 52)
  have hB := below_al w (.cells #[.int .i64 d.x, .int .i64 d.y, .int .i64 d.z] 52)
  by_cases h0 : highE ls d = 0
  rotate_left
  · rw [wnE_bad h0]
    generalize highE ls d = E at *
    have z : (E != 0) = true := bne_iff_ne.2 h0
    obtain ⟨sa, cap, rfl⟩ := S.lenS
    obtain ⟨dx, dy, dz⟩ := d
    simp only at hn hB
    obtain ⟨k0, k1, k2⟩ := c3row hn
    clear h0 S
    go_enter Tryz.func38, Tryz.ntmps38
    go_wp2_with fail
    generalize w.alloc (.cells #[.int .i64 dx, .int .i64 dy, .int .i64 dz] 52) = W at *
    ((with_reducible refine (HER.out _ hB).mono ?_); rintro e w1 ⟨rfl, hb1⟩)
    have hB1 := hB.nx hb1
    clear hn k0 k1 k2
    go_wp2
    go_ret2
    exact ⟨rfl, hB1⟩
  rw [h0] at HER
  obtain ⟨l0, l64, hin, hd, hne⟩ := highE_ok h0
  by_cases ht : tol < 0 ∨ 100000 < tol
  · rw [wnE_tol h0 ht]
    obtain ⟨sa, cap, rfl⟩ := S.lenS
    obtain ⟨dx, dy, dz⟩ := d
    simp only at hn hB
    clear h0 S hin hd hne
    have hn2 : ∀ W1, Below (w.alloc (.cells #[.int .i64 dx, .int .i64 dy, .int .i64 dz] 52)).heap.size (w.alloc (.cells #[.int .i64 dx, .int .i64 dy, .int .i64 dz] 52)) W1 → W1.heap[w.heap.size]? = _ := fun W1 h => keepD hn h
    obtain ⟨k0, k1, k2⟩ := c3row hn
    rcases ht with ht | ht
    · go_enter Tryz.func38, Tryz.ntmps38
      go_wp2_with fail
      generalize w.alloc (.cells #[.int .i64 dx, .int .i64 dy, .int .i64 dz] 52) = W at *
      ((with_reducible refine (HER.out _ hB).mono ?_); rintro e w1 ⟨rfl, hb1⟩)
      have hB1 := hB.nx hb1
      clear hn hn2 k0 k1 k2
      go_wp2
      go_ret2
      exact ⟨rfl, hB1⟩
    · have ht2 : ¬ tol < 0 := by omega
      go_enter Tryz.func38, Tryz.ntmps38
      go_wp2_with fail
      generalize w.alloc (.cells #[.int .i64 dx, .int .i64 dy, .int .i64 dz] 52) = W at *
      ((with_reducible refine (HER.out _ hB).mono ?_); rintro e w1 ⟨rfl, hb1⟩)
      have hB1 := hB.nx hb1
      clear hn hn2 k0 k1 k2
      go_wp2
      go_ret2
      exact ⟨rfl, hB1⟩
  rw [wnE_ok h0 ht]
  have szq := wnQ_sz (sq := sq) l0 hd hne hin
  have szt := tol_szO ht
  have htt := St.mul_bd (x := tol) (y := tol) (k := 100000) (m := 100000) (by omega) (by omega)
  have hw : IntKind.i64.wrap (tol * tol) = tol * tol := Go.Proofs.Wk.wr rfl (by omega)
  have HPA := Lib.hid (fun W (h : Below w.heap.size w W) => rPlanes_c ls d W (S.later h) l0 l64 hin hd hne)
  have HUP := Lib.hid (fun W (h : Below w.heap.size w W) => rNarrow_c ls d W (S.later h) hin hd l64)
  have HWH := Lib.hid (fun W => by have := rWhole_q (tol * tol) W (by omega) (by omega); rwa [itoa_sq] at this)
  have HCM := Lib.hid (fun W => Order_q (wnQ ls d sq) ((tol * tol : Int) : Rat) W (szq.mono (by decide)) (szt.mono (by decide)))
  have hle := cmpQ_le (wnQ ls d sq) ((tol * tol : Int) : Rat)
  generalize decide (wnQ ls d sq ≤ ((tol * tol : Int) : Rat)) = AN at *
  generalize cmpQ (wnQ ls d sq) ((tol * tol : Int) : Rat) = cc at *
  unfold narV at HUP
  unfold zonV at HPA
  have hwq : wnQ ls d sq = if sq = true then Or.wid ls d else Rat.divInt (((Or.ends (ls.map (Or.dot d))).high - (Or.ends (ls.map (Or.dot d))).low) * ((Or.ends (ls.map (Or.dot d))).high - (Or.ends (ls.map (Or.dot d))).low)) (Or.dot d d) := rfl
  generalize wnQ ls d sq = QQ at *
  generalize rtoa ((tol * tol : Int) : Rat) = TT at *
  generalize Or.wid ls d = QW at *
  generalize Or.prI (Or.least ls d) = pi at *
  generalize Or.prJ (Or.least ls d) = pj at *
  generalize Or.prK (Or.least ls d) = pk at *
  generalize Or.ends (ls.map (Or.dot d)) = EE at *
  generalize Rat.divInt ((EE.high - EE.low) * (EE.high - EE.low)) (Or.dot d d) = QP at *
  generalize EE.a0 = a0 at *
  generalize EE.a1 = a1 at *
  obtain ⟨sa, cap, rfl⟩ := S.lenS
  obtain ⟨dx, dy, dz⟩ := d
  simp only at hn hB
  have t0 : ¬ tol < 0 := by omega
  have t1 : ¬ 100000 < tol := by omega
  have HN := Lib.hid hn
  have HLE := Lib.hid hle
  obtain ⟨k0, k1, k2⟩ := c3row hn
  clear h0 S hin hd hne szq szt htt ht l0 l64 hle hn
  go_enter Tryz.func38, Tryz.ntmps38
  go_wp2_with fail
  generalize w.alloc (.cells #[.int .i64 dx, .int .i64 dy, .int .i64 dz] 52) = W at *
  ((with_reducible refine (HER.out _ hB).mono ?_); rintro e w1 ⟨rfl, hb1⟩)
  have hB1 := hB.nx hb1
  have HN1 := Lib.hid (keepD HN.out hb1)
  clear HN k0 k1 k2 hB hb1 HER
  obtain ⟨k0, k1, k2⟩ := c3row HN1.out
  go_wp2_with fail
  ((with_reducible refine (HPA.out _ hB1).mono ?_); rintro e w2 ⟨rfl, hb2⟩)
  have hA2 := below_al w2 (.cells #[.int .i64 (a0 : Int), .int .i64 (a1 : Int)] 44)
  have hB2 := (hB1.nx hb2).nx hA2
  have HN2 := Lib.hid (keepD (keepD HN1.out hb2) hA2)
  clear HN1 k0 k1 k2 hB1 hb2 hA2 HPA
  obtain ⟨k0, k1, k2⟩ := c3row HN2.out
  cases sq with
  | true =>
    obtain rfl : QQ = QW := hwq
    generalize rtoa QQ = TQ at *
    go_wp2_with fail
    generalize w2.alloc (.cells #[.int .i64 (a0 : Int), .int .i64 (a1 : Int)] 44) = w3 at *
    ((with_reducible refine (HUP.out _ hB2).mono ?_); rintro e w4 ⟨rfl, hb4⟩)
    have hB4 := hB2.nx hb4
    clear hB2 hb4 HUP k0 k1 k2 HN2
    go_wp2_with fail
    ((with_reducible refine (HWH.out _).mono ?_); rintro e w5 ⟨rfl, hb5⟩)
    have hB5 := hB4.nx hb5
    clear hB4 hb5
    go_wp2_with fail
    ((with_reducible refine (HCM.out _).mono ?_); rintro e w6 ⟨rfl, hb6⟩)
    have hB6 := hB5.nx hb6
    clear hB5 hb6
    go_wp2
    go_ret2
    exact ⟨congrArg (fun b => Ending.returned (bint (b, 0))) HLE.out, hB6⟩
  | false =>
    obtain rfl : QQ = QP := hwq
    generalize rtoa QQ = TQ at *
    go_wp2_with fail
    generalize w2.alloc (.cells #[.int .i64 (a0 : Int), .int .i64 (a1 : Int)] 44) = w3 at *
    ((with_reducible refine (HWH.out _).mono ?_); rintro e w5 ⟨rfl, hb5⟩)
    have hB5 := hB2.nx hb5
    clear hB2 hb5 k0 k1 k2 HN2
    go_wp2_with fail
    ((with_reducible refine (HCM.out _).mono ?_); rintro e w6 ⟨rfl, hb6⟩)
    have hB6 := hB5.nx hb6
    clear hB5 hb6
    go_wp2
    go_ret2
    exact ⟨congrArg (fun b => Ending.returned (bint (b, 0))) HLE.out, hB6⟩
end Go.Proofs.Wk
