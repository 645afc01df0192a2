/- STRAIGHTNESS: the reference's Verify, walked. -/
import Derived.Test.YtjopphkhpmoedaaGreatDoorNP
namespace Go.Proofs.Wk
open Go.RowKit Mt

def pv (ls : List St.Pt) (sq : Txt) (i j f : Nat) : Bool :=
  if St.same ls = true then (decide (sq = [48]) && (decide (i = 0) && decide (j = 0)))
  else (St.okP ls i j && (decide (rtoa (St.wv ls (St.prf ls i j)) = sq) && decide (rtoa (St.wq (St.left (St.at_ ls i) (St.at_ ls j) (St.at_ ls f)) (St.at_ ls i) (St.at_ ls j)) = sq)))
theorem pv_same {ls : List St.Pt} {sq : Txt} {i j f : Nat} (h : St.same ls = true) : pv ls sq i j f = (decide (sq = [48]) && (decide (i = 0) && decide (j = 0))) := by unfold pv; rw [if_pos h]
theorem pv_no {ls : List St.Pt} {sq : Txt} {i j f : Nat} (h : St.same ls = false) (h2 : St.okP ls i j = false) : pv ls sq i j f = false := by unfold pv; rw [if_neg (by rw [h]; simp), h2]; rfl
theorem pv_ok {ls : List St.Pt} {sq : Txt} {i j f : Nat} (h : St.same ls = false) (h2 : St.okP ls i j = true) :
    pv ls sq i j f = (decide (rtoa (St.wv ls (St.prf ls i j)) = sq) && decide (rtoa (St.wq (St.left (St.at_ ls i) (St.at_ ls j) (St.at_ ls f)) (St.at_ ls i) (St.at_ ls j)) = sq)) := by unfold pv; rw [if_neg (by rw [h]; simp), h2]; rfl
theorem ver_pv (ls : List St.Pt) (sq : Txt) (i j f : Nat) : ver ls sq i j f = (decide (rtoa (St.wid ls) = sq) && pv ls sq i j f) := by
  cases h : St.same ls with
  | true =>
    rw [ver_same h, pv_same h, same_wid h]
    by_cases e : sq = [48]
    · subst e; rfl
    · rw [decide_eq_false e]; simp
  | false =>
    by_cases h2 : rtoa (St.wid ls) = sq
    · rw [decide_eq_true h2]
      cases h3 : St.okP ls i j with
      | false => rw [ver_pair h h3, pv_no h h3]; rfl
      | true =>
        rw [pv_ok h h3]
        by_cases h4 : rtoa (St.wv ls (St.prf ls i j)) = sq
        · rw [ver_all' h h2 h3 h4, decide_eq_true h4]; rfl
        · rw [ver_sq h h4, decide_eq_false h4]; rfl
    · rw [ver_wid h h2, decide_eq_false h2]; rfl
/-- What lies in memory where a proof is looked at. -/
structure PvR (w W : World) (g b o1 o2 o3 ni nj : Nat) (p q r : St.Pt) : Prop where
  a : W.heap[g]? = some (.cells #[.int .i64 (ni : Int), .int .i64 (nj : Int)] 47 (0, 0))
  p1 : PtAt W b o1 p
  p2 : PtAt W b o2 q
  p3 : PtAt W b o3 r
  w : Below w.heap.size w W
theorem PvR.later {w W W' : World} {g b o1 o2 o3 ni nj : Nat} {p q r : St.Pt} (h : PvR w W g b o1 o2 o3 ni nj p q r) (hb : Below W.heap.size W W') : PvR w W' g b o1 o2 o3 ni nj p q r :=
  ⟨keepR h.a hb, h.p1.later hb, h.p2.later hb, h.p3.later hb, h.w.nx hb⟩
theorem PvR.drew {w W : World} {g b o1 o2 o3 ni nj : Nat} {p q r : St.Pt} (h : PvR w W g b o1 o2 o3 ni nj p q r) : PvR w W.drew g b o1 o2 o3 ni nj p q r := ⟨h.a, h.p1.drew, h.p2.drew, h.p3.drew, h.w.drew⟩
theorem PvR.t {w W : World} {g b o1 o2 o3 ni nj : Nat} {p q r : St.Pt} (h : PvR w W g b o1 o2 o3 ni nj p q r) :
    W.cell? ⟨g, 0, none⟩ = some (.int .i64 (ni : Int)) ∧ W.cell? ⟨g, 1, none⟩ = some (.int .i64 (nj : Int)) ∧ W.cell? ⟨b, o1, none⟩ = some (.int .i64 p.x) ∧ W.cell? ⟨b, o1 + 1, none⟩ = some (.int .i64 p.y) ∧ W.cell? ⟨b, o2, none⟩ = some (.int .i64 q.x) ∧ W.cell? ⟨b, o2 + 1, none⟩ = some (.int .i64 q.y) ∧
      W.cell? ⟨b, o3, none⟩ = some (.int .i64 r.x) ∧ W.cell? ⟨b, o3 + 1, none⟩ = some (.int .i64 r.y) ∧ PvR w W g b o1 o2 o3 ni nj p q r :=
  ⟨(c2row h.a).1, (c2row h.a).2, h.p1.c0, h.p1.c1, h.p2.c0, h.p2.c1, h.p3.c0, h.p3.c1, h⟩
set_option maxRecDepth 100000 in
set_option maxHeartbeats 4000000 in
theorem proves_c {v : Value} (ls : List St.Pt) (sq : Txt) (ni nj nf : Nat) (w : World) (S : SlX w v ls) (hln : ls.length ≤ 140737488355328) (i1 : 0 < ls.length) (i2 : ls.length ≤ 64) (i3 : ∀ p ∈ ls, St.InP p)
    (hi : ni < ls.length) (hj : nj < ls.length) (hf : nf < ls.length) :
    Calls Tryz.prog 82 #[v, .string ⟨sq.toArray⟩, .agg #[.int .i64 (ni : Int), .int .i64 (nj : Int)], .int .i64 (nf : Int)] w (Ret w (.bool (pv ls sq ni nj nf))) := by
  have hn := heap_alloc_new w (.cells #[.int .i64 (ni : Int), .int .i64 (nj : Int)] 47)
  have hB := below_al w (.cells #[.int .i64 (ni : Int), .int .i64 (nj : Int)] 47)
  have HSM := Lib.hid (fun W (h : Below w.heap.size w W) => rsame_c ls W (S.later h) i1 hln)
  have HSU := Lib.hid (fun W (h : Below w.heap.size w W) => rSupports_c ls ni nj W (S.later h) i3 hi hj i2)
  have ae := fun W => ar_eql (ni : Int) (nj : Int) 0 0 W
  refine S.cases _ ?_ ?_
  · rintro a cap rfl rfl
    simp at i1
  rintro b off cap rfl hp hR hb
  have HR := Lib.hid (fun (W : World) (h : Below w.heap.size w W) (k : Nat) (hk : k < ls.length) => (hR.later h hb).ptAt hk)
  cases hsm : St.same ls with
  | true =>
    rw [hsm] at HSM
    rw [pv_same hsm]
    clear S hR hp HR HSU hsm
    by_cases hz : sq = [48]
    · subst hz
      go_enter Tryz.func82, Tryz.ntmps82
      go_wp2_with fail
      generalize w.alloc (.cells #[.int .i64 (ni : Int), .int .i64 (nj : Int)] 47) = W at *
      ((with_reducible refine (HSM.out _ hB).mono ?_); rintro e w1 ⟨rfl, hb1⟩)
      have hB1 := hB.nx hb1
      obtain ⟨c0, c1⟩ := c2row (keepR hn hb1)
      go_wp2
      go_ret
      refine ⟨?_, hB1⟩
      show Ending.returned (.bool ((ni : Int) == 0 && (nj : Int) == 0)) = Ending.returned (.bool (decide (([48] : Txt) = [48]) && (decide (ni = 0) && decide (nj = 0))))
      rw [ij0]; rfl
    · have y1 : (sq == [48]) = false := beq_eq_false_iff_ne.2 hz
      rw [decide_eq_false hz]
      go_enter Tryz.func82, Tryz.ntmps82
      go_wp2_with fail
      generalize w.alloc (.cells #[.int .i64 (ni : Int), .int .i64 (nj : Int)] 47) = W at *
      ((with_reducible refine (HSM.out _ hB).mono ?_); rintro e w1 ⟨rfl, hb1⟩)
      have hB1 := hB.nx hb1
      obtain ⟨c0, c1⟩ := c2row (keepR hn hb1)
      go_wp2
      go_ret
      exact ⟨rfl, hB1⟩
  | false =>
    rw [hsm] at HSM
    cases hok : St.okP ls ni nj with
    | false =>
      rw [hok] at HSU
      rw [pv_no hsm hok]
      clear S hR hp HR hsm hok
      go_enter Tryz.func82, Tryz.ntmps82
      go_wp2_with fail
      generalize w.alloc (.cells #[.int .i64 (ni : Int), .int .i64 (nj : Int)] 47) = W at *
      ((with_reducible refine (HSM.out _ hB).mono ?_); rintro e w1 ⟨rfl, hb1⟩)
      have hB1 := hB.nx hb1
      obtain ⟨c0, c1⟩ := c2row (keepR hn hb1)
      go_wp2_with fail
      ((with_reducible refine (HSU.out _ hB1).mono ?_); rintro e w2 ⟨rfl, hb2⟩)
      have hB2 := hB1.nx hb2
      go_wp2
      go_ret
      exact ⟨rfl, hB2⟩
    | true =>
      rw [hok] at HSU
      rw [pv_ok hsm hok]
      have hne := St.okP_ne hok
      have hfa := fun W (h : Below w.heap.size w W) => rFarthest_c ls (St.at_ ls ni) (St.at_ ls nj) W (S.later h) i3 i1 (St.at_in i3 hi) (St.at_in i3 hj) hne i2
      rw [St.farthest_eq hne] at hfa
      have HFA := Lib.hid hfa
      have HFL := Lib.hid (fun W => rFromLine_c (St.at_ ls nf) (St.at_ ls ni) (St.at_ ls nj) W (St.at_in i3 hf) (St.at_in i3 hi) (St.at_in i3 hj) hne)
      generalize rtoa (St.wv ls (St.prf ls ni nj)) = T1 at *
      generalize (St.prf ls ni nj).far = xf at *
      generalize rtoa (St.wq (St.left (St.at_ ls ni) (St.at_ ls nj) (St.at_ ls nf)) (St.at_ ls ni) (St.at_ ls nj)) = T2 at *
      have hr0 : ∀ W1, Below w.heap.size w W1 → W1.heap[w.heap.size]? = some (.cells #[.int .i64 (ni : Int), .int .i64 (nj : Int)] 47 (0, 0)) → PvR w W1 w.heap.size b (off + ni * 2) (off + nj * 2) (off + nf * 2) ni nj (St.at_ ls ni) (St.at_ ls nj) (St.at_ ls nf) :=
        fun W1 h h2 => ⟨h2, HR.out _ h ni hi, HR.out _ h nj hj, HR.out _ h nf hf, h⟩
      generalize St.at_ ls ni = p1 at *
      generalize St.at_ ls nj = p2 at *
      generalize St.at_ ls nf = p3 at *
      obtain ⟨ax, ay⟩ := p1
      obtain ⟨bx, by_⟩ := p2
      obtain ⟨cx, cy⟩ := p3
      have HR1 := Lib.hid hr0
      clear S hR hp HR hsm hok hne hfa hr0
      go_enter Tryz.func82, Tryz.ntmps82
      go_wp2_with fail
      generalize w.alloc (.cells #[.int .i64 (ni : Int), .int .i64 (nj : Int)] 47) = W at *
      ((with_reducible refine (HSM.out _ hB).mono ?_); rintro e w1 ⟨rfl, hb1⟩)
      have hB1 := hB.nx hb1
      have hn1 := keepR hn hb1
      obtain ⟨c0, c1⟩ := c2row hn1
      go_wp2_with fail
      ((with_reducible refine (HSU.out _ hB1).mono ?_); rintro e w2 ⟨rfl, hb2⟩)
      have HR0 := Lib.hid (HR1.out _ (hB1.nx hb2) (keepR hn1 hb2))
      clear hn hB hb1 hB1 hn1 c0 c1 hb2 HSM HSU HR1
      go_wp2_with fail
      go_region_held3 (fun w' => w'.cell? ⟨w.heap.size, 0, none⟩ = some (.int .i64 (ni : Int)) ∧ w'.cell? ⟨w.heap.size, 1, none⟩ = some (.int .i64 (nj : Int)) ∧ w'.cell? ⟨b, off + ni * 2, none⟩ = some (.int .i64 ax) ∧ w'.cell? ⟨b, off + ni * 2 + 1, none⟩ = some (.int .i64 ay) ∧
          w'.cell? ⟨b, off + nj * 2, none⟩ = some (.int .i64 bx) ∧ w'.cell? ⟨b, off + nj * 2 + 1, none⟩ = some (.int .i64 by_) ∧ w'.cell? ⟨b, off + nf * 2, none⟩ = some (.int .i64 cx) ∧ w'.cell? ⟨b, off + nf * 2 + 1, none⟩ = some (.int .i64 cy) ∧
          PvR w w' w.heap.size b (off + ni * 2) (off + nj * 2) (off + nf * 2) ni nj ⟨ax, ay⟩ ⟨bx, by_⟩ ⟨cx, cy⟩)
        (first | exact JJ.t | exact HR0.out.t | exact HR0.out.drew.t)
        (first
          | (go_at_call 118; (with_reducible refine (HFA.out _ ?_).mono ?_); (first | exact HR0.out.drew.w | exact HR0.out.w); rintro e w3 ⟨rfl, hb3⟩; (first | have JJ := HR0.out.drew.later hb3 | have JJ := HR0.out.later hb3))
          | fail)
      all_goals
        have HR2 := Lib.hid JJ
        clear JJ HR0 HFA
        by_cases h1 : T1 = sq
        · subst h1
          rw [decide_eq_true rfl]
          go_wp2_with fail
          go_region_held3 (fun w' => w'.cell? ⟨w.heap.size, 0, none⟩ = some (.int .i64 (ni : Int)) ∧ w'.cell? ⟨w.heap.size, 1, none⟩ = some (.int .i64 (nj : Int)) ∧ w'.cell? ⟨b, off + ni * 2, none⟩ = some (.int .i64 ax) ∧ w'.cell? ⟨b, off + ni * 2 + 1, none⟩ = some (.int .i64 ay) ∧
              w'.cell? ⟨b, off + nj * 2, none⟩ = some (.int .i64 bx) ∧ w'.cell? ⟨b, off + nj * 2 + 1, none⟩ = some (.int .i64 by_) ∧ w'.cell? ⟨b, off + nf * 2, none⟩ = some (.int .i64 cx) ∧ w'.cell? ⟨b, off + nf * 2 + 1, none⟩ = some (.int .i64 cy) ∧
              PvR w w' w.heap.size b (off + ni * 2) (off + nj * 2) (off + nf * 2) ni nj ⟨ax, ay⟩ ⟨bx, by_⟩ ⟨cx, cy⟩)
            (first | exact JJ.t | exact HR2.out.t | exact HR2.out.drew.t)
            (first
              | (go_at_call 119; (with_reducible refine (HFL.out _).mono ?_); rintro e w4 ⟨rfl, hb4⟩; (first | have JJ := HR2.out.drew.later hb4 | have JJ := HR2.out.later hb4))
              | fail)
          all_goals
            have hB4 := JJ.w
            clear JJ HR2
            go_wp2
            go_ret
            refine ⟨?_, hB4⟩
            show Ending.returned (.bool (T2 == T1)) = Ending.returned (.bool (true && decide (T2 = T1)))
            exact ret_bool (by rw [Bool.eq_iff_iff]; simp)
        · have y1 : (T1 == sq) = false := beq_eq_false_iff_ne.2 h1
          have hB3 := HR2.out.w
          clear HR2
          go_wp2_with fail
          go_region
          all_goals
            go_wp2
            go_ret
            refine ⟨?_, hB3.drew⟩
            rw [decide_eq_false h1]; rfl
end Go.Proofs.Wk
