/- STRAIGHTNESS: the law of points that are moved, walked. -/
import Derived.Test.YtjopphkhpmoedaaGreatDoorNQ
import Derived.Test.YtjopphkhpmoedaaGreatDoorLkC
namespace Go.Proofs.Wk
open Go.RowKit Go.Once Mt
attribute [-go_sem] Builtin.append_

/-- What the first operations of the law's test yield. -/
def k1R (v : Value) (q : Bool) (bx by_ : Int) (ls : List St.Pt) (w0 : World) : Nat → Value → World → Prop
  | 0, u, _ => u = v
  | 1, u, _ => u = .bool q
  | 2, u, _ => u = .bool (!q)
  | 3, u, _ => u = .bool (!q)
  | 4, u, _ => q = true → u = v
  | 5, u, w => q = true → OwX 37 w (w0.heap.size + 1) u ls
  | 6, u, _ => q = true → u = ptV ⟨bx, by_⟩
  | 7, u, w => q = true → ∃ g, u = .slice (some ⟨g, 0, none⟩) 1 1 ∧ w.heap[g]? = some (.cells #[.int .i64 bx, .int .i64 by_] 37 (0, 0))
  | _, _, _ => True
def k1J (bx by_ : Int) (w0 : World) (w : World) : Prop := w.heap[w0.heap.size]? = some (.cells #[.int .i64 bx, .int .i64 by_] 37 (0, 0)) ∧ Below w0.heap.size w0 w
theorem k1_keep (v : Value) (q : Bool) (bx by_ : Int) (ls : List St.Pt) (w0 : World) : ∀ i u w w', k1R v q bx by_ ls w0 i u w → k1T w w' → k1R v q bx by_ ls w0 i u w' := by
  intro i u w w' h hT
  match i, h with
  | 0, h => exact h
  | 1, h => exact h
  | 2, h => exact h
  | 3, h => exact h
  | 4, h => exact h
  | 5, h => exact fun e => (h e).later hT
  | 6, h => exact h
  | 7, h => exact fun e => by obtain ⟨g, h1, h2⟩ := h e; exact ⟨g, h1, keepR h2 hT⟩
  | _ + 8, _ => trivial
theorem k1J_later {bx by_ : Int} {w0 w w' : World} (h : k1J bx by_ w0 w) (hT : k1T w w') : k1J bx by_ w0 w' := ⟨keepR h.1 hT, h.2.nx hT⟩
theorem givP_mk {l : List St.Pt} (h0 : 0 < l.length) (h1 : l.length ≤ 64) (h2 : ∀ p ∈ l, St.InP p) : St.givP l = 0 := by
  have hc : St.chkP l = 0 := by
    unfold St.chkP
    rw [if_neg (by omega), if_pos (List.all_eq_true.2 fun p hp => St.inB_iff.2 (h2 p hp))]
  unfold St.givP
  rw [if_pos hc, if_neg (by omega)]
theorem wid_single {ls : List St.Pt} (h : ls.length = 1) : rtoa (St.wid ls) = [48] := by rw [St.wid_two (by omega)]; decide +kernel
theorem cmp_lk {p q : Rat} (h : p ≤ q) : cmpQ p q ≤ 0 := by have := cmpQ_le p q; rw [decide_eq_true h] at this; exact of_decide_eq_true this
set_option maxRecDepth 100000 in
set_option maxHeartbeats 4000000 in
theorem keeps_law {v : Value} (ls : List St.Pt) (by_ : St.Pt) (i : Int) (w : World) (hg : Good w) (S : SlX w v ls) (hln : ls.length ≤ 140737488355328) (hi : 0 ≤ i ∧ i ≤ 255) :
    Calls Tryz.prog 7 #[v, ptV by_, .int .u8 i] w (Ret w (.bool true)) := by
  have HRI := Lib.hid (fun W (h : Below w.heap.size w W) => right_c ls W (S.later h) hln)
  have HCL := Lib.hid (fun h0 hn W (h : Below w.heap.size w W) => cloneP_c ls W (S.later h) h0 hn)
  have HAW := Lib.hid (fun W (h : Below w.heap.size w W) => awake_c W (hg.later h))
  have HWD := Lib.hid (fun (h0 : St.givP ls = 0) W (h : Below w.heap.size w W) => by have := Width_c ls W (hg.later h) (S.later h) hln; rwa [show widV ls = _ from if_pos h0, bsQ_wid] at this)
  have HWM := Lib.hid (fun ms u W (h : Below w.heap.size w W) (U : SlX W u ms) (hl : ms.length ≤ 140737488355328) (h0 : St.givP ms = 0) => by have := Width_c ms W (hg.later h) U hl; rwa [show widV ms = _ from if_pos h0, bsQ_wid] at this)
  have HCK := Lib.hid (fun (h0 : St.givP ls = 0) W => by
    have zw := wid_sz (St.givP_in h0).2.2
    have := rqCheck_c (rtoa (St.wid ls)) W (tlen (zw.ok (by decide)))
    rwa [rchk_rtoa (zw.ok (by decide))] at this)
  have HTM := Lib.hid (fun (h0 : St.givP ls = 0) W => by
    have zw := wid_sz (St.givP_in h0).2.2
    have := Times_q (St.wid ls) 4 W (zw.mono (by decide)) ((szQ_int (n := 4) (k := 24) (by decide) (by decide)).mono (by decide))
    rwa [show rtoa 4 = [52] by decide +kernel] at this)
  have HTR := Lib.hid (fun v k (hk : k < 4) => (wid_tr ls v hk).trans (show wantT ls k = if k = 3 then rtoa (St.wid ls * 4) else rtoa (St.wid ls) from rfl))
  have HCP := Lib.hid (fun (h0 : St.givP ls = 0) m (hm : ∀ p ∈ m, p ∈ ls) W (h : Below w.heap.size w W) => qCmpR (St.wid m) (St.wid ls) W (hg.later h) ((wid_sz (fun p hp => (St.givP_in h0).2.2 p (hm p hp))).mono (by decide)) ((wid_sz (St.givP_in h0).2.2).mono (by decide)))
  have HS := Lib.hid (fun W (h : Below w.heap.size w W) => S.later h)
  have hn := heap_alloc_new w (.cells #[.int .i64 by_.x, .int .i64 by_.y] 37)
  have hB := below_al w (.cells #[.int .i64 by_.x, .int .i64 by_.y] 37)
  obtain ⟨sa, cap, hv⟩ := S.len
  have HRL := Lib.hid (@rightB_iff ls)
  generalize rightB ls = q at *
  subst hv
  obtain ⟨bx, by_⟩ := by_
  simp only at hn hB
  have HN := Lib.hid hn
  have HB := Lib.hid hB
  clear S hg hn hB
  go_enter Tryz.func7, Tryz.ntmps7
  go_wp2_with fail
  generalize w.alloc (.cells #[.int .i64 bx, .int .i64 by_] 37) = W at *
  cases q with
  | false =>
    refine wp_region_tail (R := k1R (.slice sa ls.length cap) false bx by_ ls w) (J := k1J bx by_ w) (T := k1T) 8 (by decide) (by kernel_rfl) (by kernel_rfl) (by kernel_rfl) (k1_keep _ _ _ _ _ _) ⟨HN.out, HB.out.drew⟩ ?_ ?_
    · intro i o hi ho
      match i, hi, ho with
      | 0, _, ho =>
        obtain rfl := Option.some.inj ho
        refine Step.val (n := 167) rfl (by kernel_rfl) fun vs w1 b hJ hD hS => ⟨?_, .slice sa ls.length cap, w1, ?_, rfl, hJ, Below.refl _ _⟩
        · rfl
        · have e0 := hS.rest 0 (by kernel_rfl)
          simp [execOp, go_sem, e0]
      | 1, _, ho =>
        obtain rfl := Option.some.inj ho
        refine Step.call (n := 167) rfl (by kernel_rfl) fun vs w1 b hJ hD hS => ⟨?_, 25, #[.slice sa ls.length cap], ?_, ?_⟩
        · rfl
        · have e26 := (hS.got 0 26 (by kernel_rfl) rfl (by decide)).trans (hD 0 (depM (by kernel_rfl)))
          simp [execOp, go_sem, e26]
        · exact (HRI.out _ hJ.2).mono fun e w2 ⟨h1, h2⟩ => ⟨_, h1, rfl, k1J_later hJ h2, h2⟩
      | 2, _, ho =>
        obtain rfl := Option.some.inj ho
        refine Step.val (n := 167) rfl (by kernel_rfl) fun vs w1 b hJ hD hS => ⟨?_, .bool true, w1, ?_, rfl, hJ, Below.refl _ _⟩
        · rfl
        · have e27 := (hS.got 1 27 (by kernel_rfl) rfl (by decide)).trans (hD 1 (depM (by kernel_rfl)))
          simp [execOp, go_sem, e27]
      | 3, _, ho =>
        obtain rfl := Option.some.inj ho
        refine Step.val (n := 167) rfl (by kernel_rfl) fun vs w1 b hJ hD hS => ⟨?_, .bool true, w1, ?_, rfl, hJ, Below.refl _ _⟩
        · rfl
        · have e28 := (hS.got 2 28 (by kernel_rfl) rfl (by decide)).trans (hD 2 (depM (by kernel_rfl)))
          simp [execOp, go_sem, e28]
      | 4, _, ho =>
        obtain rfl := Option.some.inj ho
        refine Step.off (n := 167) rfl (by kernel_rfl) (fun _ => Below.refl _ _) fun vs w1 b hJ hD hS => ⟨?_, fun e => (nomatch e)⟩
        show (yielded _ b.tmps 3 == some false) = false; rw [hS.yld 3 29 (by kernel_rfl) rfl (by decide), show vs 3 = .bool true from hD 3 (depM (by kernel_rfl))]; rfl
      | 5, _, ho =>
        obtain rfl := Option.some.inj ho
        refine Step.off (n := 167) rfl (by kernel_rfl) (fun _ => Below.refl _ _) fun vs w1 b hJ hD hS => ⟨?_, fun e => (nomatch e)⟩
        show (yielded _ b.tmps 3 == some false) = false; rw [hS.yld 3 29 (by kernel_rfl) rfl (by decide), show vs 3 = .bool true from hD 3 (depM (by kernel_rfl))]; rfl
      | 6, _, ho =>
        obtain rfl := Option.some.inj ho
        refine Step.off (n := 167) rfl (by kernel_rfl) (fun _ => Below.refl _ _) fun vs w1 b hJ hD hS => ⟨?_, fun e => (nomatch e)⟩
        show (yielded _ b.tmps 3 == some false) = false; rw [hS.yld 3 29 (by kernel_rfl) rfl (by decide), show vs 3 = .bool true from hD 3 (depM (by kernel_rfl))]; rfl
      | 7, _, ho =>
        obtain rfl := Option.some.inj ho
        refine Step.off (n := 167) rfl (by kernel_rfl) (fun _ => Below.refl _ _) fun vs w1 b hJ hD hS => ⟨?_, fun e => (nomatch e)⟩
        show (yielded _ b.tmps 3 == some false) = false; rw [hS.yld 3 29 (by kernel_rfl) rfl (by decide), show vs 3 = .bool true from hD 3 (depM (by kernel_rfl))]; rfl

    · intro fuel vs w1 hf hJ hR
      have r0 : vs 0 = .slice sa ls.length cap := hR 0 (by decide)
      have r1 : vs 1 = .bool false := hR 1 (by decide)
      have r2 : vs 2 = .bool true := hR 2 (by decide)
      have r3 : vs 3 = .bool true := hR 3 (by decide)
      refine wpAny_three (N := 8) (Nat.le_trans (Nat.le_of_eq (by kernel_rfl)) hf) (by kernel_rfl) (by kernel_rfl) (by kernel_rfl) (by kernel_rfl) ?_
      simp only [show List.range 8 = [0, 1, 2, 3, 4, 5, 6, 7] from rfl, putL, List.foldl_cons, List.foldl_nil, dstOf, List.getElem?_toArray, List.getElem?_cons_zero, List.getElem?_cons_succ, Option.bind_some, Act.put, List.setIfInBounds_toArray, List.set_cons_zero, List.set_cons_succ]
      rw [r0, r1, r2, r3]
      refine wpOp_off rfl rfl ?_
      refine wpOp_off rfl rfl ?_
      refine wpOp_val (u := .bool true) (w' := w1) rfl rfl (by simp [execOp, go_sem, Act.put]) ?_
      simp only [Act.put, List.setIfInBounds_toArray]
      have hB1 := hJ.2
      clear r0 r1 r2 r3 hR hJ hf HRI HCL HRL
      go_wp2_with fail
      ((with_reducible refine (HAW.out _ hB1).mono ?_); rintro e w2 ⟨rfl, hb2⟩)
      have hB2 := hB1.nx hb2
      go_wp2
      go_ret
      exact ⟨rfl, hB2⟩
  | true =>
    obtain ⟨hg0, hl0, hl8, hin⟩ := HRL.out rfl
    have HIN := Lib.hid hin
    clear hin
    refine wp_region_tail (R := k1R (.slice sa ls.length cap) true bx by_ ls w) (J := k1J bx by_ w) (T := k1T) 8 (by decide) (by kernel_rfl) (by kernel_rfl) (by kernel_rfl) (k1_keep _ _ _ _ _ _) ⟨HN.out, HB.out.drew⟩ ?_ ?_
    · intro i o hi ho
      match i, hi, ho with
      | 0, _, ho =>
        obtain rfl := Option.some.inj ho
        refine Step.val (n := 167) rfl (by kernel_rfl) fun vs w1 b hJ hD hS => ⟨?_, .slice sa ls.length cap, w1, ?_, rfl, hJ, Below.refl _ _⟩
        · rfl
        · have e0 := hS.rest 0 (by kernel_rfl)
          simp [execOp, go_sem, e0]
      | 1, _, ho =>
        obtain rfl := Option.some.inj ho
        refine Step.call (n := 167) rfl (by kernel_rfl) fun vs w1 b hJ hD hS => ⟨?_, 25, #[.slice sa ls.length cap], ?_, ?_⟩
        · rfl
        · have e26 := (hS.got 0 26 (by kernel_rfl) rfl (by decide)).trans (hD 0 (depM (by kernel_rfl)))
          simp [execOp, go_sem, e26]
        · exact (HRI.out _ hJ.2).mono fun e w2 ⟨h1, h2⟩ => ⟨_, h1, rfl, k1J_later hJ h2, h2⟩
      | 2, _, ho =>
        obtain rfl := Option.some.inj ho
        refine Step.val (n := 167) rfl (by kernel_rfl) fun vs w1 b hJ hD hS => ⟨?_, .bool false, w1, ?_, rfl, hJ, Below.refl _ _⟩
        · rfl
        · have e27 := (hS.got 1 27 (by kernel_rfl) rfl (by decide)).trans (hD 1 (depM (by kernel_rfl)))
          simp [execOp, go_sem, e27]
      | 3, _, ho =>
        obtain rfl := Option.some.inj ho
        refine Step.val (n := 167) rfl (by kernel_rfl) fun vs w1 b hJ hD hS => ⟨?_, .bool false, w1, ?_, rfl, hJ, Below.refl _ _⟩
        · rfl
        · have e28 := (hS.got 2 28 (by kernel_rfl) rfl (by decide)).trans (hD 2 (depM (by kernel_rfl)))
          simp [execOp, go_sem, e28]
      | 4, _, ho =>
        obtain rfl := Option.some.inj ho
        refine Step.val (n := 167) rfl (by kernel_rfl) fun vs w1 b hJ hD hS => ⟨?_, .slice sa ls.length cap, w1, ?_, fun _ => rfl, hJ, Below.refl _ _⟩
        · show (yielded _ b.tmps 3 == some false) = true; rw [hS.yld 3 29 (by kernel_rfl) rfl (by decide), show vs 3 = .bool false from hD 3 (depM (by kernel_rfl))]; rfl
        · have e0 := hS.rest 0 (by kernel_rfl)
          simp [execOp, go_sem, e0]
      | 5, _, ho =>
        obtain rfl := Option.some.inj ho
        refine Step.call (n := 167) rfl (by kernel_rfl) fun vs w1 b hJ hD hS => ⟨?_, 30, #[.slice sa ls.length cap], ?_, ?_⟩
        · show (yielded _ b.tmps 3 == some false) = true; rw [hS.yld 3 29 (by kernel_rfl) rfl (by decide), show vs 3 = .bool false from hD 3 (depM (by kernel_rfl))]; rfl
        · have e30 := (hS.got 4 30 (by kernel_rfl) rfl (by decide)).trans (hD 4 (depM (by kernel_rfl)) rfl)
          simp [execOp, go_sem, e30]
        · exact (HCL.out hl0 (by omega) _ hJ.2).mono fun e w2 ⟨u, h1, h2, h3⟩ => ⟨_, h1, fun _ => h2.base (Array.getElem?_eq_some_iff.1 hJ.1).1, k1J_later hJ h3, h3⟩
      | 6, _, ho =>
        obtain rfl := Option.some.inj ho
        refine Step.val (n := 167) rfl (by kernel_rfl) fun vs w1 b hJ hD hS => ⟨?_, ptV ⟨bx, by_⟩, w1, ?_, fun _ => rfl, hJ, Below.refl _ _⟩
        · show (yielded _ b.tmps 3 == some false) = true; rw [hS.yld 3 29 (by kernel_rfl) rfl (by decide), show vs 3 = .bool false from hD 3 (depM (by kernel_rfl))]; rfl
        · have e4 := hS.rest 4 (by kernel_rfl)
          obtain ⟨c0, c1⟩ := c2row hJ.1
          simp [execOp, go_sem, e4, c0, c1]
      | 7, _, ho =>
        obtain rfl := Option.some.inj ho
        refine Step.val (n := 167) rfl (by kernel_rfl) fun vs w1 b hJ hD hS => ⟨?_, .slice (some ⟨w1.heap.size, 0, none⟩) 1 1, w1.alloc (.cells #[.int .i64 bx, .int .i64 by_] 37), ?_, fun _ => ⟨_, rfl, heap_alloc_new w1 _⟩, k1J_later hJ (below_al w1 _), below_al w1 _⟩
        · show (yielded _ b.tmps 3 == some false) = true; rw [hS.yld 3 29 (by kernel_rfl) rfl (by decide), show vs 3 = .bool false from hD 3 (depM (by kernel_rfl))]; rfl
        · have e32 := (hS.got 6 32 (by kernel_rfl) rfl (by decide)).trans (hD 6 (depM (by kernel_rfl)) rfl)
          simp [execOp, go_sem, e32]

    · intro fuel vs w1 hf hJ hR
      have r0 : vs 0 = .slice sa ls.length cap := hR 0 (by decide)
      have r1 : vs 1 = .bool true := hR 1 (by decide)
      have r2 : vs 2 = .bool false := hR 2 (by decide)
      have r3 : vs 3 = .bool false := hR 3 (by decide)
      have r4 : vs 4 = .slice sa ls.length cap := hR 4 (by decide) rfl
      have r5 := Lib.hid (hR 5 (by decide) rfl)
      have r6 : vs 6 = ptV ⟨bx, by_⟩ := hR 6 (by decide) rfl
      obtain ⟨g7, r7, hg7⟩ := hR 7 (by decide) rfl
      refine wpAny_three (N := 8) (Nat.le_trans (Nat.le_of_eq (by kernel_rfl)) hf) (by kernel_rfl) (by kernel_rfl) (by kernel_rfl) (by kernel_rfl) ?_
      simp only [show List.range 8 = [0, 1, 2, 3, 4, 5, 6, 7] from rfl, putL, List.foldl_cons, List.foldl_nil, dstOf, List.getElem?_toArray, List.getElem?_cons_zero, List.getElem?_cons_succ, Option.bind_some, Act.put, List.setIfInBounds_toArray, List.set_cons_zero, List.set_cons_succ]
      rw [r0, r1, r2, r3, r4, r6, r7]
      clear r0 r1 r2 r3 r4 r6 r7 hR hf HRI HRL
      generalize vs 5 = v5 at *
      obtain ⟨v8, w8, hr8, ho8, hb8⟩ := run_app_row (ty := 22) Tryz.underlying22 ptZ 16 (by decide) (by kernel_rfl) rfl (w.heap.size + 1) v5 ls r5.out g7 (⟨bx, by_⟩ : St.Pt) (fun j hj => by
        rw [cell_of_row _ _ _ _ _ _ hg7]
        match j, hj with
        | 0, _ => rfl
        | 1, _ => rfl) (by omega) (Array.getElem?_eq_some_iff.1 hJ.1).1
      refine wpOp_val (u := v8) (w' := w8) rfl rfl (by simp [execOp, go_sem, hr8]) ?_
      simp only [Act.put, List.setIfInBounds_toArray]
      have hB8 : Below w.heap.size w w8 := hJ.2.trans (hb8.mono (Nat.le_succ _))
      have hN8 := (hb8.block _ (Nat.lt_succ_self _)).trans hJ.1
      refine wpOp_call (f := 29) (args := #[v8, .func (.func 31) #[] #[]]) rfl rfl (by simp [execOp, go_sem]) ?_
      refine (cnf_k (ls ++ [⟨bx, by_⟩]) bigP w8 ho8.sl (by rw [List.length_append, List.length_singleton]; omega) fun p _ W' _ => big_c p W').mono ?_
      rintro e w9 ⟨rfl, hb9⟩
      refine ⟨_, rfl, ?_⟩
      simp only [Act.put]
      have hB9 := hB8.nx hb9
      have hN9 := keepR hN8 hb9
      generalize hany : (ls ++ [(⟨bx, by_⟩ : St.Pt)]).any bigP = B at *
      refine wpOp_val (u := .bool B) (w' := w9) rfl rfl (by simp [execOp, go_sem]) ?_
      simp only [Act.put]
      clear r5 hg7 hr8 ho8 hb8 hb9 hB8 hJ
      cases B with
      | true =>
        clear hany
        go_wp2_with fail
        ((with_reducible refine (HAW.out _ hB9).mono ?_); rintro e w10 ⟨rfl, hb10⟩)
        have hB10 := hB9.nx hb10
        go_wp2
        go_ret
        exact ⟨rfl, hB10⟩
      | false =>
        rw [List.any_append, Bool.or_eq_false_iff] at hany
        have HSMA := Lib.hid (fun p (hp : p ∈ ls) => big_no (p := p) (Bool.eq_false_iff.2 (List.any_eq_false.1 hany.1 p hp)))
        have HBY := Lib.hid (big_no (p := ⟨bx, by_⟩) (by simpa using hany.2))
        clear hany
        go_wp2_with fail
        ((with_reducible refine (HWD.out hg0 _ hB9).mono ?_); rintro e w10 ⟨rfl, hb10⟩)
        generalize bsI (St.least ls) = xi at *
        generalize bsJ (St.least ls) = xj at *
        generalize bsF (St.least ls) = xf at *
        have hA11 := below_al w10 (.cells #[.int .i64 (xi : Int), .int .i64 (xj : Int)] 47)
        have hB11 := (hB9.nx hb10).nx hA11
        have hN11 := keepR (keepR hN9 hb10) hA11
        clear hB9 hN9 hN8 hb10 hA11
        go_wp2_with fail
        generalize w10.alloc (.cells #[.int .i64 (xi : Int), .int .i64 (xj : Int)] 47) = w11 at *
        ((with_reducible refine (HCK.out hg0 _).mono ?_); rintro e w12 ⟨rfl, hb12⟩)
        have hB12 := hB11.nx hb12
        have hN12 := keepR hN11 hb12
        clear hB11 hN11 hb12
        go_wp2_with fail
        ((with_reducible refine (HTM.out hg0 _).mono ?_); rintro e w13 ⟨rfl, hb13⟩)
        have hB13 := hB12.nx hb13
        have hN13 := keepR hN12 hb13
        clear hB12 hN12 hb13
        have HT1 := Lib.hid (fun h => wid_single (ls := ls) h)
        generalize rtoa (St.wid ls) = T at *
        generalize rtoa (St.wid ls * 4) = T4 at *
        have hA14 := below_al w13 (.cells #[.string ⟨T.toArray⟩, .string ⟨T.toArray⟩, .string ⟨T.toArray⟩, .string ⟨T4.toArray⟩] 39)
        have hB14 := hB13.nx hA14
        have hN14 := keepR hN13 hA14
        have hT14 := heap_alloc_new w13 (.cells #[.string ⟨T.toArray⟩, .string ⟨T.toArray⟩, .string ⟨T.toArray⟩, .string ⟨T4.toArray⟩] 39)
        clear hB13 hN13 hA14
        go_wp2_with fail
        generalize w13.alloc (.cells #[.string ⟨T.toArray⟩, .string ⟨T.toArray⟩, .string ⟨T.toArray⟩, .string ⟨T4.toArray⟩] 39) = w14 at *
        generalize w13.heap.size = gT at *
        refine (HS.out w (Below.refl _ _)).cases _ ?_ ?_
        · rintro a c e1 e2
          rw [e2] at hl0; simp at hl0
        rintro b off c e1 hp hR hb
        obtain ⟨rfl, rfl⟩ : sa = some ⟨b, off, none⟩ ∧ cap = c := by simpa using e1
        have HR := Lib.hid (fun (W : World) (h : Below w.heap.size w W) (k : Nat) (hk : k < ls.length) => (hR.later h hb).ptAt hk)
        have HMS := Lib.hid (fun j (hj : j < ls.length) => HSMA.out _ (St.at_mem hj))
        clear e1 hp hR hb
        go_loopw [59] (fun si wr => ∃ k : Nat, si = .int .i64 (k : Int) ∧ k ≤ 4 ∧ Hid (Below w.heap.size w wr) ∧ Hid (wr.heap[w.heap.size]? = some (.cells #[.int .i64 bx, .int .i64 by_] 37 (0, 0))) ∧
            Hid (wr.heap[gT]? = some (.cells #[.string ⟨T.toArray⟩, .string ⟨T.toArray⟩, .string ⟨T.toArray⟩, .string ⟨T4.toArray⟩] 39 (0, 0)))) (fun si _ => 4 - (intOf si).toNat)
        case atStart => exact ⟨0, rfl, by omega, hB14, hN14, hT14⟩
        case round =>
          obtain ⟨k, rfl, hk, hB, hN, hTc⟩ := hrel
          rename World => W0
          by_cases hlt : k < 4
          · have hz4 : decide ((k : Int) < 4) = true := decide_eq_true (by omega)
            have k0 : W0.cell? ⟨gT, k, none⟩ = some (.string ⟨(if k = 3 then T4 else T).toArray⟩) := by
              rw [cell_of_row _ _ _ _ _ _ hTc.out]
              rcases (by omega : k = 0 ∨ k = 1 ∨ k = 2 ∨ k = 3) with rfl | rfl | rfl | rfl <;> rfl
            have HKT := Lib.hid (HTR.out ⟨bx, by_⟩ k hlt)
            generalize (if k = 3 then T4 else T) = TK at *
            go_wp2_with fail
            go_loopw [13, 66] (fun sv sj wq => ∃ j : Nat, sj = .int .i64 (j : Int) ∧ j ≤ ls.length ∧ Hid (OwX 37 wq W0.heap.size sv ((ls.take j).map (trK k ⟨bx, by_⟩))) ∧ Hid (Below W0.heap.size W0 wq)) (fun _ sj _ => ls.length - (intOf sj).toNat)
            case atStart => exact ⟨0, rfl, Nat.zero_le _, OwX.nil _ _ _, Below.refl _ _⟩
            case round =>
              obtain ⟨j, rfl, hj, hO, hBq⟩ := hrel
              by_cases hlj : j < ls.length
              · have hpt := HR.out _ (hB.out.nx hBq.out) j hlj
                have hps := HMS.out j hlj
                have HSTP := Lib.hid (show (ls.take (j + 1)).map (trK k ⟨bx, by_⟩) = (ls.take j).map (trK k ⟨bx, by_⟩) ++ [trK k ⟨bx, by_⟩ (St.at_ ls j)] by rw [List.take_succ_eq_append_getElem hlj, List.map_append, ← St.at_get hlj]; rfl)
                generalize St.at_ ls j = p at *
                obtain ⟨px, py⟩ := p
                have l0 := hpt.c0
                have l1 := hpt.c1
                simp only at l0 l1 hps
                have hby := HBY.out
                have hw5 : IntKind.i64.wrap (px + bx) = px + bx := Go.Proofs.Wk.wr rfl (by omega)
                have hw10 : IntKind.i64.wrap (py + by_) = py + by_ := Go.Proofs.Wk.wr rfl (by omega)
                have hw14 : IntKind.i64.wrap (-px) = -px := Go.Proofs.Wk.wr rfl (by omega)
                have hw20 : IntKind.i64.wrap (-py) = -py := Go.Proofs.Wk.wr rfl (by omega)
                have hw26 : IntKind.i64.wrap (2 * px) = 2 * px := Go.Proofs.Wk.wr rfl (by omega)
                have hw29 : IntKind.i64.wrap (2 * py) = 2 * py := Go.Proofs.Wk.wr rfl (by omega)
                have hA1 := below_al wr (.cells #[.int .i64 px, .int .i64 py] 37)
                have hP1 := heap_alloc_new wr (.cells #[.int .i64 px, .int .i64 py] 37)
                have hN1 := keepR (keepR hN.out hBq.out) hA1
                have HO1 := Lib.hid (hO.out.later hA1)
                have HB1 := Lib.hid (hBq.out.nx hA1)
                clear hps hby hA1 hpt
                go_wp2_with fail
                generalize wr.alloc (.cells #[.int .i64 px, .int .i64 py] 37) = W1 at *
                generalize wr.heap.size = gp at *
                refine Go.Once.wp_ops (ops' := opsOf Tryz.f7 13) (by kernel_rfl) ?_
                refine wp_region_tail (R := k2R u13 k px py bx by_ gp w.heap.size) (J := k2J px py bx by_ gp w.heap.size W1) (T := k1T) 36 (Nat.le_of_ble_eq_true (by kernel_rfl)) (by kernel_rfl) (by kernel_rfl) (by kernel_rfl) (k2_keep _ _ _ _ _ _ _ _) ⟨hP1, hN1, (Below.refl _ _).drew⟩ (stepsOf rfl rfl rfl rfl rfl hlt hw5 hw10 hw14 hw20 hw26 hw29) ?_
                clear hw5 hw10 hw14 hw20 hw26 hw29
                · intro fuel vs w1 hf hJ hR
                  have r0 : vs 0 = u13 := hR 0 (by decide)
                  obtain ⟨g35, r35, hg35⟩ := hR 35 (by decide)
                  refine wpAny_two (N := 36) (Nat.le_trans (Nat.le_of_eq (by kernel_rfl)) hf) (by kernel_rfl) (by kernel_rfl) (by kernel_rfl) ?_
                  simp only [show List.range 36 = [0, 1, 2, 3, 4, 5, 6, 7, 8, 9, 10, 11, 12, 13, 14, 15, 16, 17, 18, 19, 20, 21, 22, 23, 24, 25, 26, 27, 28, 29, 30, 31, 32, 33, 34, 35] from rfl, putL, List.foldl_cons, List.foldl_nil, d13_0, d13_1, d13_2, d13_3, d13_4, d13_5, d13_6, d13_7, d13_8, d13_9, d13_10, d13_11, d13_12, d13_13, d13_14, d13_15, d13_16, d13_17, d13_18, d13_19, d13_20, d13_21, d13_22, d13_23, d13_24, d13_25, d13_26, d13_27, d13_28, d13_29, d13_30, d13_31, d13_32, d13_33, d13_34, d13_35, Act.put, List.setIfInBounds_toArray, List.set_cons_zero, List.set_cons_succ]
                  rw [r0, r35]
                  clear r0 r35 hR hf
                  obtain ⟨v36, w36, hr36, ho36, hb36⟩ := run_app_row (ty := 22) Tryz.underlying22 ptZ 16 (by decide) (by kernel_rfl) rfl W0.heap.size u13 ((ls.take j).map (trK k ⟨bx, by_⟩)) (HO1.out.later hJ.2.2) g35 (trK k ⟨bx, by_⟩ ⟨px, py⟩) (fun m hm => by
                    rw [cell_of_row _ _ _ _ _ _ hg35]
                    match m, hm with
                    | 0, _ => rfl
                    | 1, _ => rfl) (by rw [List.length_map, List.length_take]; omega) (Nat.le_trans HB1.out.size hJ.2.2.size)
                  refine wpOp_valM (op := .call { callee := .builtin .append, args := #[.tmp 70, .tmp 105], argTypes := #[22, 22] }) (ty := 22) (d := 106) (u := v36) (w' := w36) (by kernel_rfl) (by kernel_rfl) (by kernel_rfl) (by kernel_rfl) (fun o e1 e2 => by simp [execOp, e1, e2, go_sem, hr36]) ?_
                  simp only [Act.put]
                  refine wpOp_valM (op := .assign (.tmp 106)) (ty := 22) (d := 13) (u := v36) (w' := w36) (by kernel_rfl) (by kernel_rfl) (by kernel_rfl) (by kernel_rfl) (fun o e1 _ => by simp [execOp, e1, go_sem]) ?_
                  simp only [Act.put]
                  have HB36 := Lib.hid (HB1.out.trans ((hJ.2.2.mono HB1.out.size).trans hb36))
                  have HO36 := Lib.hid ho36
                  clear hr36 ho36 hb36 hg35 hJ
                  go_wp2
                  go_roundw
                  case rel => exact ⟨j + 1, by go_num, by omega, by rw [HSTP.out]; exact HO36.out, HB36.out⟩
                  case measure => simp [intOf]; omega
              · obtain rfl : j = ls.length := by omega
                have HM := Lib.hid (show OwX 37 wr W0.heap.size u13 (ls.map (trK k ⟨bx, by_⟩)) by have h := hO.out; rwa [List.take_length] at h)
                have HLM := Lib.hid (show (ls.map (trK k ⟨bx, by_⟩)).length ≤ 140737488355328 by rw [List.length_map]; exact hln)
                have HGM := Lib.hid (show St.givP (ls.map (trK k ⟨bx, by_⟩)) = 0 from givP_mk (by rw [List.length_map]; exact hl0) (by rw [List.length_map]; omega) (fun p hp => by
                  obtain ⟨q, hq, rfl⟩ := List.mem_map.1 hp
                  exact tr_in (HSMA.out q hq) HBY.out))
                clear hO hj
                go_wp2_with fail
                ((with_reducible refine (HWM.out (ls.map (trK k ⟨bx, by_⟩)) _ _ (hB.out.nx hBq.out) HM.out.sl HLM.out HGM.out).mono ?_); rintro e w2 ⟨rfl, hb2⟩)
                rw [HKT.out]
                generalize bsI (St.least (ls.map (trK k ⟨bx, by_⟩))) = yi at *
                generalize bsJ (St.least (ls.map (trK k ⟨bx, by_⟩))) = yj at *
                generalize bsF (St.least (ls.map (trK k ⟨bx, by_⟩))) = yf at *
                have hA3 := below_al w2 (.cells #[.int .i64 (yi : Int), .int .i64 (yj : Int)] 47)
                have HB3 := Lib.hid (((hB.out.nx hBq.out).nx hb2).nx hA3)
                have HN3 := Lib.hid (keepR (keepR (keepR hN.out hBq.out) hb2) hA3)
                have HT3 := Lib.hid (keepR (keepR (keepR hTc.out hBq.out) hb2) hA3)
                clear hA3 hb2 HM HLM HGM HKT hB hN hTc hBq k0
                go_wp2
                go_roundw
                case rel => exact ⟨k + 1, by go_num, by omega, HB3.out, HN3.out, HT3.out⟩
                case measure => simp [intOf]; omega
          · obtain rfl : k = 4 := by omega
            clear HTR HCK HTM HWD hTc hN HMS HBY HR HSMA
            by_cases h1 : ls.length = 1
            · obtain rfl : T = [48] := HT1.out h1
              have hle : decide ((ls.length : Int) = 1) = true := decide_eq_true (by omega)
              have hle2 : decide (ls.length = 1) = true := decide_eq_true h1
              clear HT1 HWM HCP HS HIN HCL
              go_wp2_with fail
              ((with_reducible refine (HAW.out _ hB.out).mono ?_); rintro e w10 ⟨rfl, hb10⟩)
              have hB10 := hB.out.nx hb10
              go_wp2
              go_ret
              exact ⟨rfl, hB10⟩
            · have hle : decide ((ls.length : Int) = 1) = false := decide_eq_false (by omega)
              have hle2 : decide (ls.length = 1) = false := decide_eq_false h1
              obtain ⟨kk, hkk⟩ : ∃ kk, kk = i.toNat % ls.length := ⟨_, rfl⟩
              have hkl : kk < ls.length := by rw [hkk]; exact Nat.mod_lt _ hl0
              have hrem : Int.tmod i ls.length = (kk : Int) := by
                rw [hkk, Int.natCast_emod, ← Int.tmod_eq_emod_of_nonneg (by omega), Int.toNat_of_nonneg hi.1]
              have hlw : (ls.length : Int) ≠ 0 := by omega
              obtain ⟨jj, hjj⟩ : ∃ jj, jj = kk + 1 := ⟨_, rfl⟩
              have hjw : (kk : Int) + 1 = (jj : Int) := by omega
              have hkw : IntKind.i64.wrap (kk : Int) = (kk : Int) := Go.Proofs.Wk.wr rfl (by omega)
              have hiw : IntKind.i64.wrap i = i := Go.Proofs.Wk.wr rfl (by omega)
              have hjv : IntKind.i64.wrap (jj : Int) = (jj : Int) := Go.Proofs.Wk.wr rfl (by omega)
              have HEM := Lib.hid (fun p (hp : p ∈ ls.eraseIdx kk) => List.mem_of_mem_eraseIdx hp)
              have HEL := Lib.hid (show (ls.eraseIdx kk).length ≤ 140737488355328 by rw [List.length_eraseIdx_of_lt hkl]; omega)
              have HEG := Lib.hid (show St.givP (ls.eraseIdx kk) = 0 from givP_mk (by rw [List.length_eraseIdx_of_lt hkl]; omega) (by rw [List.length_eraseIdx_of_lt hkl]; omega) (fun p hp => HIN.out p (HEM.out p hp)))
              have hcl := cmp_lk (St.wid_mono HEM.out)
              have HKL := Lib.hid hkl
              have HJJ := Lib.hid hjj
              have HL0 := Lib.hid hl0
              have HL8 := Lib.hid hl8
              have h1i : ¬ (ls.length : Int) = 1 := by omega
              clear HT1 HS HIN hkl hjj hkk hl0 hl8
              go_wp2_with fail
              ((with_reducible refine (HCL.out HL0.out (by have := HL8.out; omega) _ hB.out).mono ?_); rintro e w2 ⟨u2, rfl, ho2, hb2⟩)
              have HB2 := Lib.hid (hB.out.nx hb2)
              have HO2 := Lib.hid ho2
              clear ho2
              go_wp2_with fail
              ((with_reducible refine (deleteP_c ls kk jj HJJ.out _ _ HO2.out HKL.out (by have := HL8.out; omega)).mono ?_); rintro e w3 ⟨u3, rfl, hs3, hb3⟩)
              have HB3 := Lib.hid (HB2.out.trans (hb3.mono hB.out.size))
              have HS3 := Lib.hid hs3
              clear hs3 hb3 hb2 HO2
              go_wp2_with fail
              ((with_reducible refine (HWM.out (ls.eraseIdx kk) _ _ HB3.out HS3.out HEL.out HEG.out).mono ?_); rintro e w4 ⟨rfl, hb4⟩)
              generalize bsI (St.least (ls.eraseIdx kk)) = yi at *
              generalize bsJ (St.least (ls.eraseIdx kk)) = yj at *
              generalize bsF (St.least (ls.eraseIdx kk)) = yf at *
              have HC := Lib.hid (fun W h => HCP.out hg0 (ls.eraseIdx kk) HEM.out W h)
              clear HCP HEM HEL HEG
              generalize cmpQ (St.wid (ls.eraseIdx kk)) (St.wid ls) = cq at *
              generalize rtoa (St.wid (ls.eraseIdx kk)) = T5 at *
              have hA5 := below_al w4 (.cells #[.int .i64 (yi : Int), .int .i64 (yj : Int)] 47)
              have hB5 := (HB3.out.nx hb4).nx hA5
              clear hA5 hb4 HB2 HB3 HS3 hB
              go_wp2_with fail
              generalize w4.alloc (.cells #[.int .i64 (yi : Int), .int .i64 (yj : Int)] 47) = w5 at *
              ((with_reducible refine (HC.out _ hB5).mono ?_); rintro e w6 ⟨rfl, hb6⟩)
              have hB6 := hB5.nx hb6
              clear hB5 hb6
              go_wp2_with fail
              ((with_reducible refine (HAW.out _ hB6).mono ?_); rintro e w7 ⟨rfl, hb7⟩)
              have hB7 := hB6.nx hb7
              go_wp2
              go_ret
              exact ⟨rfl, hB7⟩
end Go.Proofs.Wk
