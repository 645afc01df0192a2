/- STRAIGHTNESS: the law of the least width, walked to its end. -/
import Derived.Test.YtjopphkhpmoedaaGreatDoorLlB
namespace Go.Proofs.Wk
open Go.RowKit Mt

/-- Where the direction of the pair is asked for. -/
structure LcR (w W : World) (g b o1 o2 i j : Nat) (v : Value) (p q : St.Pt) : Prop where
  l : W.heap[w.heap.size]? = some (.cells #[v] 22 (0, 0))
  e : W.heap[g]? = some (.cells #[.int .i64 (i : Int), .int .i64 (j : Int)] 47 (0, 0))
  p1 : PtAt W b o1 p
  p2 : PtAt W b o2 q
  w : Below w.heap.size w W
theorem LcR.later {w W W' : World} {g b o1 o2 i j : Nat} {v : Value} {p q : St.Pt} (h : LcR w W g b o1 o2 i j v p q) (hb : Below W.heap.size W W') : LcR w W' g b o1 o2 i j v p q := ⟨keepR h.l hb, keepR h.e hb, h.p1.later hb, h.p2.later hb, h.w.nx hb⟩
theorem LcR.drew {w W : World} {g b o1 o2 i j : Nat} {v : Value} {p q : St.Pt} (h : LcR w W g b o1 o2 i j v p q) : LcR w W.drew g b o1 o2 i j v p q := ⟨h.l, h.e, h.p1.drew, h.p2.drew, h.w.drew⟩
theorem LcR.t {w W : World} {g b o1 o2 i j : Nat} {v : Value} {p q : St.Pt} (h : LcR w W g b o1 o2 i j v p q) :
    W.cell? ⟨w.heap.size, 0, none⟩ = some v ∧ W.cell? ⟨g, 0, none⟩ = some (.int .i64 (i : Int)) ∧ W.cell? ⟨g, 1, none⟩ = some (.int .i64 (j : Int)) ∧ W.cell? ⟨b, o1, none⟩ = some (.int .i64 p.x) ∧ W.cell? ⟨b, o1 + 1, none⟩ = some (.int .i64 p.y) ∧
      W.cell? ⟨b, o2, none⟩ = some (.int .i64 q.x) ∧ W.cell? ⟨b, o2 + 1, none⟩ = some (.int .i64 q.y) ∧ LcR w W g b o1 o2 i j v p q := ⟨c1row h.l, (c2row h.e).1, (c2row h.e).2, h.p1.c0, h.p1.c1, h.p2.c0, h.p2.c1, h⟩
theorem cmp_le {p q : Rat} (h : p ≤ q) : cmpQ p q ≤ 0 := by have := cmpQ_le p q; rw [decide_eq_true h] at this; exact of_decide_eq_true this
set_option maxRecDepth 100000 in
set_option maxHeartbeats 4000000 in
theorem least_main {v : Value} (ls : List St.Pt) (a c : St.Pt) (w : World) (hg : Good w) (S : SlX w v ls) (hln : ls.length ≤ 140737488355328) (hr : rightB ls = true) (ha : St.inB a = true) (hc : St.inB c = true) (hne : a ≠ c) :
    Calls Tryz.prog 10 #[v, ptV a, ptV c] w (Ret w (.bool true)) := by
  obtain ⟨h0, h1, h8, hin⟩ := rightB_iff hr
  have hls : ls ≠ [] := fun e => by rw [e] at h1; simp at h1
  have HRI := Lib.hid (fun W (h : Below w.heap.size w W) => by have := right_c ls W (S.later h) hln; rwa [hr] at this)
  have HRA := Lib.hid (fun W => by have := rRight_p a W; rwa [ha] at this)
  have HRC := Lib.hid (fun W => by have := rRight_p c W; rwa [hc] at this)
  have HAW := Lib.hid (fun W (h : Below w.heap.size w W) => awake_c W (hg.later h))
  have hw1 := fun W (h : Below w.heap.size w W) => Width_c ls W (hg.later h) (S.later h) hln
  rw [show widV ls = _ from if_pos h0, bsQ_wid] at hw1
  have HW1 := Lib.hid hw1
  have hac := fun W (h : Below w.heap.size w W) => Across_c ls a c W (hg.later h) (S.later h) hln
  rw [acrE_ok h0 ha hc hne] at hac
  have HAC := Lib.hid hac
  have zw := (wid_sz hin).mono (show 24 ≤ 500 by decide)
  have HCM := Lib.hid (fun W (h : Below w.heap.size w W) => qCmpR (St.wid ls) (St.wq (St.acr ls a c) a c) W (hg.later h) zw ((acr_sz hin h1 (St.inB_iff.1 ha) (St.inB_iff.1 hc) hne).mono (by decide)))
  have ho := cmp_le (St.wid_le_acr hls hne)
  have hve := fun W (h : Below w.heap.size w W) => Verify_c ls (rtoa (St.wid ls)) (bsI (St.least ls) : Int) (bsJ (St.least ls) : Int) (bsF (St.least ls) : Int) W (hg.later h) (S.later h) hln (tlen ((wid_sz hin).ok (by decide)))
  rw [verE_least h0 h1 hin] at hve
  have HVE := Lib.hid hve
  obtain ⟨xi, xj, xf⟩ := least_idx h1
  have hsw := fun h => same_wid (ls := ls) h
  have hpe := fun W => pt_eql a.x a.y c.x c.y W
  rw [pt_beq, decide_eq_false hne] at hpe
  have HPR := Lib.hid (fun h => least_acr (ls := ls) h)
  have hen := fun (hsm : St.same ls = false) W (h : Below w.heap.size w W) => by have := Ends_c ls W (hg.later h) (S.later h) hln; rwa [endE_ok h0 hsm] at this
  have hcm := fun (hsm : St.same ls = false) W (h : Below w.heap.size w W) => qCmpR (St.wid ls) (St.wq (St.acr ls (St.at_ ls (St.farL ls).2.1) (St.at_ ls (St.farL ls).2.2)) (St.at_ ls (St.farL ls).2.1) (St.at_ ls (St.farL ls).2.2)) W (hg.later h) zw
    ((acr_sz hin h1 (St.at_in hin (by have := St.farL_pair hsm; omega)) (St.at_in hin (by have := St.farL_pair hsm; omega)) (St.farL_pair hsm).2.2).mono (by decide))
  have ho2 := fun (hsm : St.same ls = false) => cmp_le (St.wid_le_acr hls (St.farL_pair hsm).2.2)
  have hac2 := fun (hsm : St.same ls = false) W (h : Below w.heap.size w W) => by
    have := Across_c ls (St.at_ ls (bsI (St.least ls))) (St.at_ ls (bsJ (St.least ls))) W (hg.later h) (S.later h) hln
    rwa [acrE_ok h0 (St.inB_iff.2 (St.at_in hin xi)) (St.inB_iff.2 (St.at_in hin xj)) (least_acr hsm).1, (least_acr hsm).2] at this
  have HEN := Lib.hid hen
  have HCM2 := Lib.hid hcm
  have HAC2 := Lib.hid hac2
  refine S.cases _ ?_ ?_
  · rintro sa cap rfl rfl
    simp at h1
  rintro b off cap rfl hp hR hb
  have HR := Lib.hid (fun (W : World) (h : Below w.heap.size w W) (k : Nat) (hk : k < ls.length) => (hR.later h hb).ptAt hk)
  have hcn : ∀ W, Below w.heap.size w W → W.heap[w.heap.size]? = some (.cells #[.slice (some ⟨b, off, none⟩) ls.length cap] 22 (0, 0)) →
      Calls Tryz.prog 29 #[.slice (some ⟨b, off, none⟩) ls.length cap, .func (.func 44) #[] #[.pointer (some ⟨w.heap.size, 0, none⟩)]] W (Ret W (.bool (!St.same ls))) := fun W h hl => by
    rw [← any_ne]
    exact cnf_l ls (neP ls) W (S.later h) hln _ fun p hp W' hW => ne_l ls p _ W' ((S.later h).later hW) h1 (keepR hl hW)
  have HCN := Lib.hid hcn
  have hn := LbR.new w (.slice (some ⟨b, off, none⟩) ls.length cap) a c
  generalize hTT : rtoa (St.wid ls) = T at *
  generalize hii : bsI (St.least ls) = i at *
  generalize hjj : bsJ (St.least ls) = j at *
  generalize bsF (St.least ls) = f at *
  generalize cmpQ (St.wid ls) (St.wq (St.acr ls a c) a c) = o at *
  generalize rtoa (St.wq (St.acr ls a c) a c) = T2 at *
  have g1 : ¬ (0 : Int) < o := by omega
  have g2 : ¬ min (i : Int) (j : Int) < 0 := by omega
  have g3 : ¬ (ls.length : Int) ≤ max (i : Int) (j : Int) := by omega
  cases hsm : St.same ls with
  | true =>
    obtain rfl := hsw hsm
    rw [hsm] at HCN
    obtain ⟨ax, ay⟩ := a
    obtain ⟨cx, cy⟩ := c
    simp only at hn hpe
    clear hR hp S hg hr ha hc hne hin hls hw1 hac zw hve hsw hcn HPR hTT hii hjj hsm ho hen hcm hac2 ho2 HEN HCM2 HAC2
    go_enter Tryz.func10, Tryz.ntmps10
    go_wp2_with fail
    generalize (((w.alloc (.cells #[.slice (some ⟨b, off, none⟩) ls.length cap] 22)).alloc (.cells #[.int .i64 ax, .int .i64 ay] 37)).alloc (.cells #[.int .i64 cx, .int .i64 cy] 37)) = W at *
    obtain ⟨c0, c1, c2, c3, c4⟩ := hn.t
    go_wp2_with fail
    ((with_reducible refine (HRI.out _ hn.w).mono ?_); rintro e w1 ⟨rfl, hb1⟩)
    have n1 := hn.later hb1
    clear hn c0 c1 c2 c3 c4 hb1
    obtain ⟨c0, c1, c2, c3, c4⟩ := n1.t
    go_wp2_with fail
    ((with_reducible refine (HRA.out _).mono ?_); rintro e w2 ⟨rfl, hb2⟩)
    have n2 := n1.later hb2
    clear n1 c0 c1 c2 c3 c4 hb2
    obtain ⟨c0, c1, c2, c3, c4⟩ := n2.t
    go_wp2_with fail
    ((with_reducible refine (HRC.out _).mono ?_); rintro e w3 ⟨rfl, hb3⟩)
    have n3 := n2.later hb3
    clear n2 c0 c1 c2 c3 c4 hb3
    obtain ⟨c0, c1, c2, c3, c4⟩ := n3.t
    go_wp2_with fail
    ((with_reducible refine (HW1.out _ n3.w).mono ?_); rintro e w4 ⟨rfl, hb4⟩)
    have hA5 := below_al w4 (.cells #[.int .i64 (i : Int), .int .i64 (j : Int)] 47)
    have k5 := heap_alloc_new w4 (.cells #[.int .i64 (i : Int), .int .i64 (j : Int)] 47)
    have n5 := (n3.later hb4).later hA5
    clear n3 c0 c1 c2 c3 c4 hb4 hA5
    obtain ⟨c0, c1, c2, c3, c4⟩ := n5.t
    go_wp2_with fail
    generalize w4.alloc (.cells #[.int .i64 (i : Int), .int .i64 (j : Int)] 47) = w5 at *
    generalize w4.heap.size = g5 at *
    ((with_reducible refine (HAC.out _ n5.w).mono ?_); rintro e w6 ⟨rfl, hb6⟩)
    have n6 := n5.later hb6
    have k6 := keepR k5 hb6
    clear n5 k5 c0 c1 c2 c3 c4 hb6
    go_wp2_with fail
    ((with_reducible refine (HCM.out _ n6.w).mono ?_); rintro e w7 ⟨rfl, hb7⟩)
    have n7 := n6.later hb7
    have k7 := keepR k6 hb7
    clear n6 k6 hb7
    obtain ⟨c0, c1, c2, c3, c4⟩ := n7.t
    obtain ⟨l0, l1⟩ := c2row k7
    go_wp2_with fail
    ((with_reducible refine (HVE.out _ n7.w).mono ?_); rintro e w8 ⟨rfl, hb8⟩)
    have n8 := n7.later hb8
    have k8 := keepR k7 hb8
    clear n7 k7 c0 c1 c2 c3 c4 l0 l1 hb8
    obtain ⟨c0, c1, c2, c3, c4⟩ := n8.t
    obtain ⟨l0, l1⟩ := c2row k8
    go_wp2_with fail
    ((with_reducible refine (HCN.out _ n8.w n8.l).mono ?_); rintro e w9 ⟨rfl, hb9⟩)
    have hB9 := n8.w.nx hb9
    clear n8 k8 c0 c1 c2 c3 c4 l0 l1 hb9
    go_wp2_with fail
    ((with_reducible refine (HAW.out _ hB9).mono ?_); rintro e w10 ⟨rfl, hb10⟩)
    have hB10 := hB9.nx hb10
    go_wp2
    go_ret
    exact ⟨ret_bool (by simp), hB10⟩
  | false =>
    have HEN2 := Lib.hid (HEN.out hsm)
    have HCM3 := Lib.hid (HCM2.out hsm)
    have HAC3 := Lib.hid (HAC2.out hsm)
    have g4 := ho2 hsm
    generalize rtoa (St.wq (St.acr ls (St.at_ ls (St.farL ls).2.1) (St.at_ ls (St.farL ls).2.2)) (St.at_ ls (St.farL ls).2.1) (St.at_ ls (St.farL ls).2.2)) = T3 at *
    generalize cmpQ (St.wid ls) (St.wq (St.acr ls (St.at_ ls (St.farL ls).2.1) (St.at_ ls (St.farL ls).2.2)) (St.at_ ls (St.farL ls).2.1) (St.at_ ls (St.farL ls).2.2)) = o2 at *
    rw [hsm] at HCN
    obtain ⟨ax, ay⟩ := a
    obtain ⟨cx, cy⟩ := c
    simp only at hn hpe
    clear hR hp S hg hr ha hc hne hin hls hw1 hac zw hve hsw hcn HPR hTT hii hjj hsm ho hen hcm hac2 ho2 HEN HCM2 HAC2
    go_enter Tryz.func10, Tryz.ntmps10
    go_wp2_with fail
    generalize (((w.alloc (.cells #[.slice (some ⟨b, off, none⟩) ls.length cap] 22)).alloc (.cells #[.int .i64 ax, .int .i64 ay] 37)).alloc (.cells #[.int .i64 cx, .int .i64 cy] 37)) = W at *
    obtain ⟨c0, c1, c2, c3, c4⟩ := hn.t
    go_wp2_with fail
    ((with_reducible refine (HRI.out _ hn.w).mono ?_); rintro e w1 ⟨rfl, hb1⟩)
    have n1 := hn.later hb1
    clear hn c0 c1 c2 c3 c4 hb1
    obtain ⟨c0, c1, c2, c3, c4⟩ := n1.t
    go_wp2_with fail
    ((with_reducible refine (HRA.out _).mono ?_); rintro e w2 ⟨rfl, hb2⟩)
    have n2 := n1.later hb2
    clear n1 c0 c1 c2 c3 c4 hb2
    obtain ⟨c0, c1, c2, c3, c4⟩ := n2.t
    go_wp2_with fail
    ((with_reducible refine (HRC.out _).mono ?_); rintro e w3 ⟨rfl, hb3⟩)
    have n3 := n2.later hb3
    clear n2 c0 c1 c2 c3 c4 hb3
    obtain ⟨c0, c1, c2, c3, c4⟩ := n3.t
    go_wp2_with fail
    ((with_reducible refine (HW1.out _ n3.w).mono ?_); rintro e w4 ⟨rfl, hb4⟩)
    have hA5 := below_al w4 (.cells #[.int .i64 (i : Int), .int .i64 (j : Int)] 47)
    have k5 := heap_alloc_new w4 (.cells #[.int .i64 (i : Int), .int .i64 (j : Int)] 47)
    have n5 := (n3.later hb4).later hA5
    clear n3 c0 c1 c2 c3 c4 hb4 hA5
    obtain ⟨c0, c1, c2, c3, c4⟩ := n5.t
    go_wp2_with fail
    generalize w4.alloc (.cells #[.int .i64 (i : Int), .int .i64 (j : Int)] 47) = w5 at *
    generalize w4.heap.size = g5 at *
    ((with_reducible refine (HAC.out _ n5.w).mono ?_); rintro e w6 ⟨rfl, hb6⟩)
    have n6 := n5.later hb6
    have k6 := keepR k5 hb6
    clear n5 k5 c0 c1 c2 c3 c4 hb6
    go_wp2_with fail
    ((with_reducible refine (HCM.out _ n6.w).mono ?_); rintro e w7 ⟨rfl, hb7⟩)
    have n7 := n6.later hb7
    have k7 := keepR k6 hb7
    clear n6 k6 hb7
    obtain ⟨c0, c1, c2, c3, c4⟩ := n7.t
    obtain ⟨l0, l1⟩ := c2row k7
    go_wp2_with fail
    ((with_reducible refine (HVE.out _ n7.w).mono ?_); rintro e w8 ⟨rfl, hb8⟩)
    have n8 := n7.later hb8
    have k8 := keepR k7 hb8
    clear n7 k7 c0 c1 c2 c3 c4 l0 l1 hb8
    obtain ⟨c0, c1, c2, c3, c4⟩ := n8.t
    obtain ⟨l0, l1⟩ := c2row k8
    go_wp2_with fail
    ((with_reducible refine (HCN.out _ n8.w n8.l).mono ?_); rintro e w9 ⟨rfl, hb9⟩)
    have n9 := n8.later hb9
    have k9 := keepR k8 hb9
    clear n8 k8 c0 c1 c2 c3 c4 l0 l1 hb9
    obtain ⟨c0, c1, c2, c3, c4⟩ := n9.t
    go_wp2_with fail
    ((with_reducible refine (HEN2.out _ n9.w).mono ?_); rintro e w10 ⟨rfl, hb10⟩)
    have n10 := n9.later hb10
    have k10 := keepR k9 hb10
    clear n9 k9 c0 c1 c2 c3 c4 hb10
    go_wp2_with fail
    ((with_reducible refine (HCM3.out _ n10.w).mono ?_); rintro e w11 ⟨rfl, hb11⟩)
    have n11 := n10.later hb11
    have k11 := keepR k10 hb11
    have hr0 : LcR w w11 g5 b (off + i * 2) (off + j * 2) i j (.slice (some ⟨b, off, none⟩) ls.length cap) (St.at_ ls i) (St.at_ ls j) := ⟨n11.l, k11, HR.out _ n11.w i xi, HR.out _ n11.w j xj, n11.w⟩
    clear n10 k10 hb11 n11 k11
    generalize St.at_ ls i = p at *
    generalize St.at_ ls j = q at *
    obtain ⟨px, py⟩ := p
    obtain ⟨qx, qy⟩ := q
    have HR0 := Lib.hid hr0
    clear hr0 HRI HRA HRC HW1 HAC HCM HVE HCN HEN2 HCM3
    go_wp2_with fail
    go_region_held3 (fun w' => w'.cell? ⟨w.heap.size, 0, none⟩ = some (.slice (some ⟨b, off, none⟩) ls.length cap) ∧ w'.cell? ⟨g5, 0, none⟩ = some (.int .i64 (i : Int)) ∧ w'.cell? ⟨g5, 1, none⟩ = some (.int .i64 (j : Int)) ∧ w'.cell? ⟨b, off + i * 2, none⟩ = some (.int .i64 px) ∧ w'.cell? ⟨b, off + i * 2 + 1, none⟩ = some (.int .i64 py) ∧
        w'.cell? ⟨b, off + j * 2, none⟩ = some (.int .i64 qx) ∧ w'.cell? ⟨b, off + j * 2 + 1, none⟩ = some (.int .i64 qy) ∧ LcR w w' g5 b (off + i * 2) (off + j * 2) i j (.slice (some ⟨b, off, none⟩) ls.length cap) ⟨px, py⟩ ⟨qx, qy⟩)
      (first | exact JJ.t | exact HR0.out.t | exact HR0.out.drew.t)
      (first
        | (go_at_call 18; (with_reducible refine (HAC3.out _ ?_).mono ?_); (first | exact HR0.out.drew.w | exact HR0.out.w); rintro e w12 ⟨rfl, hb12⟩; (first | have JJ := HR0.out.drew.later hb12 | have JJ := HR0.out.later hb12))
        | fail)
    all_goals
      have hB12 := JJ.w
      clear JJ HR0 HAC3
      go_wp2_with fail
      ((with_reducible refine (HAW.out _ hB12).mono ?_); rintro e w13 ⟨rfl, hb13⟩)
      have hB13 := hB12.nx hb13
      go_wp2
      go_ret
      exact ⟨ret_bool (by simp), hB13⟩
theorem least_law {v : Value} (ls : List St.Pt) (a c : St.Pt) (w : World) (hg : Good w) (S : SlX w v ls) (hln : ls.length ≤ 140737488355328) : Calls Tryz.prog 10 #[v, ptV a, ptV c] w (Ret w (.bool true)) := by
  by_cases h : rightB ls = true ∧ St.inB a = true ∧ St.inB c = true ∧ a ≠ c
  · obtain ⟨hr, ha, hc, hne⟩ := h
    exact least_main ls a c w hg S hln hr ha hc hne
  · exact least_awake ls a c w hg S hln h
end Go.Proofs.Wk
