/- THE PROGRAM's RATIONAL NUMBERS: sums, differences, products and quotients of texts. -/
import Derived.Test.YtachiilmgnognaaGreatDoorRtF
import Derived.Test.YtachiilmgnognaaGreatDoorRqF
namespace Go.Proofs.Wk
open Go.RowKit Mt

theorem itoa_is_zero {n : Int} : (Lib.itoa n == [48]) = decide (n = 0) := by
  by_cases h : n = 0
  · subst h; rw [itoa_zero]; rfl
  · rw [decide_eq_false h, beq_eq_false_iff_ne, ← itoa_zero]
    exact fun e => h (itoa_inj e)
theorem SlS.two (w : World) (a b : Txt) (t : TypeId) : SlS (w.alloc (.cells #[.string ⟨a.toArray⟩, .string ⟨b.toArray⟩] t)) (.slice (some ⟨w.heap.size, 0, none⟩) 2 2) [a, b] :=
  .inr ⟨w.heap.size, 0, 2, rfl, RS.lit w [a, b] t, alloc_lt w _⟩
theorem cut_q (q : Rat) (w : World) (h : okQ q) : Calls Tryz.prog 66 #[.string ⟨(rtoa q).toArray⟩] w (Ret w (.tuple #[.string ⟨(Lib.itoa q.num).toArray⟩, .string ⟨(Lib.itoa (q.den : Int)).toArray⟩, .bool (rhas (rtoa q))])) := by
  have := cut_c (rtoa q) w (tlen h)
  rwa [rnum_rtoa, rden_rtoa] at this
theorem Sv.new (w : World) (hG : Good w) : Sv (w.alloc (.cells #[.int .i64 0] 96)) w.heap.size true (w.alloc (.cells #[.int .i64 0] 96)) :=
  ⟨heap_alloc_new w _, gb_refl _ _, ⟨w, hG, Nat.le_refl _, (Below.refl _ _).alloc (Nat.le_refl _) _⟩⟩
theorem Sv.below {w0 W w' : World} {s : Bool} {B : Nat} (h : Sv (W.alloc (.cells #[.int .i64 0] 96)) W.heap.size s w') (hb : Below B w0 W) (hB : B ≤ W.heap.size) : Below B w0 w' :=
  (hb.alloc hB _).trans (gb_below h.gr hB (Nat.le_trans hB (Nat.le_of_lt (alloc_lt W _))))
theorem okQ.nb {q : Rat} (h : okQ q) : q.num.natAbs < big := h.1
theorem okQ.db {q : Rat} (h : okQ q) : (q.den : Int).natAbs < big := by have := h.2; simpa using this
theorem list2_le {a b : Txt} (ha : a.length ≤ 140737488355328) (hb : b.length ≤ 140737488355328) : ∀ l ∈ [a, b], l.length ≤ 140737488355328 := by
  intro l hl; simp at hl; rcases hl with rfl | rfl <;> assumption
set_option maxRecDepth 100000 in
set_option maxHeartbeats 1000000 in
theorem madeAdd_err (a b : Txt) (w : World) (hg : Good w) (ha : a.length ≤ 140737488355328) (hb : b.length ≤ 140737488355328) (h : firstR [a, b] ≠ 0) :
    Calls Tryz.prog 73 #[.string ⟨a.toArray⟩, .string ⟨b.toArray⟩, .func (.func 74) #[] #[]] w (Ret w (ans2 ([], firstR [a, b]))) := by
  have HK := Lib.hid (fun W hW hS => checks_c (v := .slice (some ⟨w.heap.size, 0, none⟩) 2 2) [a, b] W hW hS (by simp) (list2_le ha hb))
  have HG := Lib.hid hg
  have h3 := bne_ne h
  clear ha hb hg h
  generalize firstR [a, b] = x at *
  go_enter Tryz.func73, Tryz.ntmps73
  go_wp2_with fail
  ((with_reducible refine (HK.out _ (HG.out.later ((Below.refl _ _).alloc (Nat.le_refl _) _)) (SlS.two w _ _ _)).mono ?_); rintro e w1 ⟨rfl, hb1⟩)
  have hB1 : Below w.heap.size w w1 := ((Below.refl w.heap.size w).alloc (Nat.le_refl _) _).trans (hb1.mono (Nat.le_of_lt (alloc_lt w _)))
  go_wp2
  go_ret2
  exact ⟨rfl, hB1⟩
set_option maxRecDepth 100000 in
set_option maxHeartbeats 4000000 in
theorem madeAdd_ok (p q : Rat) (w : World) (hg : Good w) (hp : okQ p) (hq : okQ q) (hf : firstR [rtoa p, rtoa q] = 0) :
    Calls Tryz.prog 73 #[.string ⟨(rtoa p).toArray⟩, .string ⟨(rtoa q).toArray⟩, .func (.func 74) #[] #[]] w (Ret w (ans2 (addQ p q))) := by
  have hk := fun W hW hS => checks_c (v := .slice (some ⟨w.heap.size, 0, none⟩) 2 2) [rtoa p, rtoa q] W hW hS (by simp) (list2_le (tlen hp) (tlen hq))
  rw [hf] at hk
  have HK := Lib.hid hk
  have HG := Lib.hid hg
  have HCP := Lib.hid (fun W => cut_q p W hp)
  have HCQ := Lib.hid (fun W => cut_q q W hq)
  have HT := Lib.hid (fun W g S => cAdd p.num p.den q.num q.den g W S hp.nb hp.db hq.nb hq.db)
  rw [← mAdd p q]
  have hx : (tAdd3 p.num p.den q.num q.den).1.natAbs < big := dk_lng _ _
  have hy : (tAdd4 p.num p.den q.num q.den).1.natAbs < big := dk_lng _ _
  generalize (tAdd4 p.num p.den q.num q.den).2 = s at *
  generalize (tAdd4 p.num p.den q.num q.den).1 = y at *
  generalize (tAdd3 p.num p.den q.num q.den).1 = x at *
  have HL := Lib.hid (fun h0 g w0 W S => lowL x y g w0 W S hx hy h0)
  have hz := itoa_is_zero (n := y)
  clear hk hp hq hf hg hx hy
  generalize rhas (rtoa p) = o1 at *
  generalize rhas (rtoa q) = o2 at *
  generalize rtoa p = ta at *
  generalize rtoa q = tb at *
  generalize Lib.itoa p.num = t1 at *
  generalize Lib.itoa (p.den : Int) = t2 at *
  generalize Lib.itoa q.num = t3 at *
  generalize Lib.itoa (q.den : Int) = t4 at *
  unfold madeR
  cases s
  · rw [if_neg (by simp)]
    generalize Lib.itoa x = tx at *
    generalize Lib.itoa y = ty at *
    clear hz
    go_enter Tryz.func73, Tryz.ntmps73
    go_wp2_with fail
    ((with_reducible refine (HK.out _ (HG.out.later ((Below.refl _ _).alloc (Nat.le_refl _) _)) (SlS.two w _ _ _)).mono ?_); rintro e w1 ⟨rfl, hb1⟩)
    have hB1 : Below w.heap.size w w1 := ((Below.refl w.heap.size w).alloc (Nat.le_refl _) _).trans (hb1.mono (Nat.le_of_lt (alloc_lt w _)))
    go_wp2_with fail
    ((with_reducible refine (HCP.out _).mono ?_); rintro e w2 ⟨rfl, hb2⟩)
    have hB2 := hB1.trans (hb2.mono hB1.size); clear hb2
    go_wp2_with fail
    ((with_reducible refine (HCQ.out _).mono ?_); rintro e w3 ⟨rfl, hb3⟩)
    have hB3 := hB2.trans (hb3.mono hB2.size); clear hb3
    have S4 := Sv.new w3 (HG.out.later hB3)
    go_wp2_with fail
    ((with_reducible refine (HT.out _ _ S4).mono ?_); rintro e w5 ⟨rfl, S5⟩)
    have c0 := S5.st.c0
    rw [show ecode false = 11 from rfl] at c0
    have HB := Lib.hid (S5.below hB3 hB3.size)
    clear S4 S5
    go_wp2_with fail
    go_region
    all_goals
      go_wp2
      go_ret2
      exact ⟨rfl, HB.out.drew⟩
  · rw [if_pos rfl]
    by_cases h1 : y = 0
    · rw [if_pos h1]
      rw [decide_eq_true h1] at hz
      generalize Lib.itoa x = tx at *
      generalize Lib.itoa y = ty at *
      clear h1
      go_enter Tryz.func73, Tryz.ntmps73
      go_wp2_with fail
      ((with_reducible refine (HK.out _ (HG.out.later ((Below.refl _ _).alloc (Nat.le_refl _) _)) (SlS.two w _ _ _)).mono ?_); rintro e w1 ⟨rfl, hb1⟩)
      have hB1 : Below w.heap.size w w1 := ((Below.refl w.heap.size w).alloc (Nat.le_refl _) _).trans (hb1.mono (Nat.le_of_lt (alloc_lt w _)))
      go_wp2_with fail
      ((with_reducible refine (HCP.out _).mono ?_); rintro e w2 ⟨rfl, hb2⟩)
      have hB2 := hB1.trans (hb2.mono hB1.size); clear hb2
      go_wp2_with fail
      ((with_reducible refine (HCQ.out _).mono ?_); rintro e w3 ⟨rfl, hb3⟩)
      have hB3 := hB2.trans (hb3.mono hB2.size); clear hb3
      have S4 := Sv.new w3 (HG.out.later hB3)
      go_wp2_with fail
      ((with_reducible refine (HT.out _ _ S4).mono ?_); rintro e w5 ⟨rfl, S5⟩)
      have c0 := S5.st.c0
      rw [show ecode true = 0 from rfl] at c0
      have HB := Lib.hid (S5.below hB3 hB3.size)
      clear S4 S5
      go_wp2
      go_ret2
      exact ⟨rfl, HB.out⟩
    · rw [if_neg h1]
      rw [decide_eq_false h1] at hz
      have HL2 := Lib.hid (HL.out h1)
      clear HL
      generalize rtoa (Rat.divInt x y) = tr at *
      generalize Lib.itoa x = tx at *
      generalize Lib.itoa y = ty at *
      clear h1
      go_enter Tryz.func73, Tryz.ntmps73
      go_wp2_with fail
      ((with_reducible refine (HK.out _ (HG.out.later ((Below.refl _ _).alloc (Nat.le_refl _) _)) (SlS.two w _ _ _)).mono ?_); rintro e w1 ⟨rfl, hb1⟩)
      have hB1 : Below w.heap.size w w1 := ((Below.refl w.heap.size w).alloc (Nat.le_refl _) _).trans (hb1.mono (Nat.le_of_lt (alloc_lt w _)))
      go_wp2_with fail
      ((with_reducible refine (HCP.out _).mono ?_); rintro e w2 ⟨rfl, hb2⟩)
      have hB2 := hB1.trans (hb2.mono hB1.size); clear hb2
      go_wp2_with fail
      ((with_reducible refine (HCQ.out _).mono ?_); rintro e w3 ⟨rfl, hb3⟩)
      have hB3 := hB2.trans (hb3.mono hB2.size); clear hb3
      have S4 := Sv.new w3 (HG.out.later hB3)
      go_wp2_with fail
      ((with_reducible refine (HT.out _ _ S4).mono ?_); rintro e w5 ⟨rfl, S5⟩)
      have c0 := S5.st.c0
      rw [show ecode true = 0 from rfl] at c0
      go_wp2_with fail
      ((with_reducible refine (HL2.out _ _ _ S5).mono ?_); rintro e w6 ⟨rfl, S6⟩)
      have c1 := S6.st.c0
      rw [show ecode true = 0 from rfl] at c1
      have HB := Lib.hid (S6.below hB3 hB3.size)
      clear S4 S5 S6 c0
      go_wp2_with fail
      go_region
      all_goals
        go_wp2
        go_ret2
        exact ⟨rfl, HB.out.drew⟩
set_option maxRecDepth 100000 in
set_option maxHeartbeats 1000000 in
theorem madeSub_err (a b : Txt) (w : World) (hg : Good w) (ha : a.length ≤ 140737488355328) (hb : b.length ≤ 140737488355328) (h : firstR [a, b] ≠ 0) :
    Calls Tryz.prog 73 #[.string ⟨a.toArray⟩, .string ⟨b.toArray⟩, .func (.func 80) #[] #[]] w (Ret w (ans2 ([], firstR [a, b]))) := by
  have HK := Lib.hid (fun W hW hS => checks_c (v := .slice (some ⟨w.heap.size, 0, none⟩) 2 2) [a, b] W hW hS (by simp) (list2_le ha hb))
  have HG := Lib.hid hg
  have h3 := bne_ne h
  clear ha hb hg h
  generalize firstR [a, b] = x at *
  go_enter Tryz.func73, Tryz.ntmps73
  go_wp2_with fail
  ((with_reducible refine (HK.out _ (HG.out.later ((Below.refl _ _).alloc (Nat.le_refl _) _)) (SlS.two w _ _ _)).mono ?_); rintro e w1 ⟨rfl, hb1⟩)
  have hB1 : Below w.heap.size w w1 := ((Below.refl w.heap.size w).alloc (Nat.le_refl _) _).trans (hb1.mono (Nat.le_of_lt (alloc_lt w _)))
  go_wp2
  go_ret2
  exact ⟨rfl, hB1⟩
set_option maxRecDepth 100000 in
set_option maxHeartbeats 4000000 in
theorem madeSub_ok (p q : Rat) (w : World) (hg : Good w) (hp : okQ p) (hq : okQ q) (hf : firstR [rtoa p, rtoa q] = 0) :
    Calls Tryz.prog 73 #[.string ⟨(rtoa p).toArray⟩, .string ⟨(rtoa q).toArray⟩, .func (.func 80) #[] #[]] w (Ret w (ans2 (subQ p q))) := by
  have hk := fun W hW hS => checks_c (v := .slice (some ⟨w.heap.size, 0, none⟩) 2 2) [rtoa p, rtoa q] W hW hS (by simp) (list2_le (tlen hp) (tlen hq))
  rw [hf] at hk
  have HK := Lib.hid hk
  have HG := Lib.hid hg
  have HCP := Lib.hid (fun W => cut_q p W hp)
  have HCQ := Lib.hid (fun W => cut_q q W hq)
  have HT := Lib.hid (fun W g S => cSub p.num p.den q.num q.den g W S hp.nb hp.db hq.nb hq.db)
  rw [← mSub p q]
  have hx : (tSub3 p.num p.den q.num q.den).1.natAbs < big := dk_lng _ _
  have hy : (tSub4 p.num p.den q.num q.den).1.natAbs < big := dk_lng _ _
  generalize (tSub4 p.num p.den q.num q.den).2 = s at *
  generalize (tSub4 p.num p.den q.num q.den).1 = y at *
  generalize (tSub3 p.num p.den q.num q.den).1 = x at *
  have HL := Lib.hid (fun h0 g w0 W S => lowL x y g w0 W S hx hy h0)
  have hz := itoa_is_zero (n := y)
  clear hk hp hq hf hg hx hy
  generalize rhas (rtoa p) = o1 at *
  generalize rhas (rtoa q) = o2 at *
  generalize rtoa p = ta at *
  generalize rtoa q = tb at *
  generalize Lib.itoa p.num = t1 at *
  generalize Lib.itoa (p.den : Int) = t2 at *
  generalize Lib.itoa q.num = t3 at *
  generalize Lib.itoa (q.den : Int) = t4 at *
  unfold madeR
  cases s
  · rw [if_neg (by simp)]
    generalize Lib.itoa x = tx at *
    generalize Lib.itoa y = ty at *
    clear hz
    go_enter Tryz.func73, Tryz.ntmps73
    go_wp2_with fail
    ((with_reducible refine (HK.out _ (HG.out.later ((Below.refl _ _).alloc (Nat.le_refl _) _)) (SlS.two w _ _ _)).mono ?_); rintro e w1 ⟨rfl, hb1⟩)
    have hB1 : Below w.heap.size w w1 := ((Below.refl w.heap.size w).alloc (Nat.le_refl _) _).trans (hb1.mono (Nat.le_of_lt (alloc_lt w _)))
    go_wp2_with fail
    ((with_reducible refine (HCP.out _).mono ?_); rintro e w2 ⟨rfl, hb2⟩)
    have hB2 := hB1.trans (hb2.mono hB1.size); clear hb2
    go_wp2_with fail
    ((with_reducible refine (HCQ.out _).mono ?_); rintro e w3 ⟨rfl, hb3⟩)
    have hB3 := hB2.trans (hb3.mono hB2.size); clear hb3
    have S4 := Sv.new w3 (HG.out.later hB3)
    go_wp2_with fail
    ((with_reducible refine (HT.out _ _ S4).mono ?_); rintro e w5 ⟨rfl, S5⟩)
    have c0 := S5.st.c0
    rw [show ecode false = 11 from rfl] at c0
    have HB := Lib.hid (S5.below hB3 hB3.size)
    clear S4 S5
    go_wp2_with fail
    go_region
    all_goals
      go_wp2
      go_ret2
      exact ⟨rfl, HB.out.drew⟩
  · rw [if_pos rfl]
    by_cases h1 : y = 0
    · rw [if_pos h1]
      rw [decide_eq_true h1] at hz
      generalize Lib.itoa x = tx at *
      generalize Lib.itoa y = ty at *
      clear h1
      go_enter Tryz.func73, Tryz.ntmps73
      go_wp2_with fail
      ((with_reducible refine (HK.out _ (HG.out.later ((Below.refl _ _).alloc (Nat.le_refl _) _)) (SlS.two w _ _ _)).mono ?_); rintro e w1 ⟨rfl, hb1⟩)
      have hB1 : Below w.heap.size w w1 := ((Below.refl w.heap.size w).alloc (Nat.le_refl _) _).trans (hb1.mono (Nat.le_of_lt (alloc_lt w _)))
      go_wp2_with fail
      ((with_reducible refine (HCP.out _).mono ?_); rintro e w2 ⟨rfl, hb2⟩)
      have hB2 := hB1.trans (hb2.mono hB1.size); clear hb2
      go_wp2_with fail
      ((with_reducible refine (HCQ.out _).mono ?_); rintro e w3 ⟨rfl, hb3⟩)
      have hB3 := hB2.trans (hb3.mono hB2.size); clear hb3
      have S4 := Sv.new w3 (HG.out.later hB3)
      go_wp2_with fail
      ((with_reducible refine (HT.out _ _ S4).mono ?_); rintro e w5 ⟨rfl, S5⟩)
      have c0 := S5.st.c0
      rw [show ecode true = 0 from rfl] at c0
      have HB := Lib.hid (S5.below hB3 hB3.size)
      clear S4 S5
      go_wp2
      go_ret2
      exact ⟨rfl, HB.out⟩
    · rw [if_neg h1]
      rw [decide_eq_false h1] at hz
      have HL2 := Lib.hid (HL.out h1)
      clear HL
      generalize rtoa (Rat.divInt x y) = tr at *
      generalize Lib.itoa x = tx at *
      generalize Lib.itoa y = ty at *
      clear h1
      go_enter Tryz.func73, Tryz.ntmps73
      go_wp2_with fail
      ((with_reducible refine (HK.out _ (HG.out.later ((Below.refl _ _).alloc (Nat.le_refl _) _)) (SlS.two w _ _ _)).mono ?_); rintro e w1 ⟨rfl, hb1⟩)
      have hB1 : Below w.heap.size w w1 := ((Below.refl w.heap.size w).alloc (Nat.le_refl _) _).trans (hb1.mono (Nat.le_of_lt (alloc_lt w _)))
      go_wp2_with fail
      ((with_reducible refine (HCP.out _).mono ?_); rintro e w2 ⟨rfl, hb2⟩)
      have hB2 := hB1.trans (hb2.mono hB1.size); clear hb2
      go_wp2_with fail
      ((with_reducible refine (HCQ.out _).mono ?_); rintro e w3 ⟨rfl, hb3⟩)
      have hB3 := hB2.trans (hb3.mono hB2.size); clear hb3
      have S4 := Sv.new w3 (HG.out.later hB3)
      go_wp2_with fail
      ((with_reducible refine (HT.out _ _ S4).mono ?_); rintro e w5 ⟨rfl, S5⟩)
      have c0 := S5.st.c0
      rw [show ecode true = 0 from rfl] at c0
      go_wp2_with fail
      ((with_reducible refine (HL2.out _ _ _ S5).mono ?_); rintro e w6 ⟨rfl, S6⟩)
      have c1 := S6.st.c0
      rw [show ecode true = 0 from rfl] at c1
      have HB := Lib.hid (S6.below hB3 hB3.size)
      clear S4 S5 S6 c0
      go_wp2_with fail
      go_region
      all_goals
        go_wp2
        go_ret2
        exact ⟨rfl, HB.out.drew⟩
set_option maxRecDepth 100000 in
set_option maxHeartbeats 1000000 in
theorem madeMul_err (a b : Txt) (w : World) (hg : Good w) (ha : a.length ≤ 140737488355328) (hb : b.length ≤ 140737488355328) (h : firstR [a, b] ≠ 0) :
    Calls Tryz.prog 73 #[.string ⟨a.toArray⟩, .string ⟨b.toArray⟩, .func (.func 83) #[] #[]] w (Ret w (ans2 ([], firstR [a, b]))) := by
  have HK := Lib.hid (fun W hW hS => checks_c (v := .slice (some ⟨w.heap.size, 0, none⟩) 2 2) [a, b] W hW hS (by simp) (list2_le ha hb))
  have HG := Lib.hid hg
  have h3 := bne_ne h
  clear ha hb hg h
  generalize firstR [a, b] = x at *
  go_enter Tryz.func73, Tryz.ntmps73
  go_wp2_with fail
  ((with_reducible refine (HK.out _ (HG.out.later ((Below.refl _ _).alloc (Nat.le_refl _) _)) (SlS.two w _ _ _)).mono ?_); rintro e w1 ⟨rfl, hb1⟩)
  have hB1 : Below w.heap.size w w1 := ((Below.refl w.heap.size w).alloc (Nat.le_refl _) _).trans (hb1.mono (Nat.le_of_lt (alloc_lt w _)))
  go_wp2
  go_ret2
  exact ⟨rfl, hB1⟩
set_option maxRecDepth 100000 in
set_option maxHeartbeats 4000000 in
theorem madeMul_ok (p q : Rat) (w : World) (hg : Good w) (hp : okQ p) (hq : okQ q) (hf : firstR [rtoa p, rtoa q] = 0) :
    Calls Tryz.prog 73 #[.string ⟨(rtoa p).toArray⟩, .string ⟨(rtoa q).toArray⟩, .func (.func 83) #[] #[]] w (Ret w (ans2 (mulQ p q))) := by
  have hk := fun W hW hS => checks_c (v := .slice (some ⟨w.heap.size, 0, none⟩) 2 2) [rtoa p, rtoa q] W hW hS (by simp) (list2_le (tlen hp) (tlen hq))
  rw [hf] at hk
  have HK := Lib.hid hk
  have HG := Lib.hid hg
  have HCP := Lib.hid (fun W => cut_q p W hp)
  have HCQ := Lib.hid (fun W => cut_q q W hq)
  have HT := Lib.hid (fun W g S => cMul p.num p.den q.num q.den g W S hp.nb hp.db hq.nb hq.db)
  rw [← mMul p q]
  have hx : (tMul1 p.num q.num).1.natAbs < big := dk_lng _ _
  have hy : (tMul2 p.num p.den q.num q.den).1.natAbs < big := dk_lng _ _
  generalize (tMul2 p.num p.den q.num q.den).2 = s at *
  generalize (tMul2 p.num p.den q.num q.den).1 = y at *
  generalize (tMul1 p.num q.num).1 = x at *
  have HL := Lib.hid (fun h0 g w0 W S => lowL x y g w0 W S hx hy h0)
  have hz := itoa_is_zero (n := y)
  clear hk hp hq hf hg hx hy
  generalize rhas (rtoa p) = o1 at *
  generalize rhas (rtoa q) = o2 at *
  generalize rtoa p = ta at *
  generalize rtoa q = tb at *
  generalize Lib.itoa p.num = t1 at *
  generalize Lib.itoa (p.den : Int) = t2 at *
  generalize Lib.itoa q.num = t3 at *
  generalize Lib.itoa (q.den : Int) = t4 at *
  unfold madeR
  cases s
  · rw [if_neg (by simp)]
    generalize Lib.itoa x = tx at *
    generalize Lib.itoa y = ty at *
    clear hz
    go_enter Tryz.func73, Tryz.ntmps73
    go_wp2_with fail
    ((with_reducible refine (HK.out _ (HG.out.later ((Below.refl _ _).alloc (Nat.le_refl _) _)) (SlS.two w _ _ _)).mono ?_); rintro e w1 ⟨rfl, hb1⟩)
    have hB1 : Below w.heap.size w w1 := ((Below.refl w.heap.size w).alloc (Nat.le_refl _) _).trans (hb1.mono (Nat.le_of_lt (alloc_lt w _)))
    go_wp2_with fail
    ((with_reducible refine (HCP.out _).mono ?_); rintro e w2 ⟨rfl, hb2⟩)
    have hB2 := hB1.trans (hb2.mono hB1.size); clear hb2
    go_wp2_with fail
    ((with_reducible refine (HCQ.out _).mono ?_); rintro e w3 ⟨rfl, hb3⟩)
    have hB3 := hB2.trans (hb3.mono hB2.size); clear hb3
    have S4 := Sv.new w3 (HG.out.later hB3)
    go_wp2_with fail
    ((with_reducible refine (HT.out _ _ S4).mono ?_); rintro e w5 ⟨rfl, S5⟩)
    have c0 := S5.st.c0
    rw [show ecode false = 11 from rfl] at c0
    have HB := Lib.hid (S5.below hB3 hB3.size)
    clear S4 S5
    go_wp2_with fail
    go_region
    all_goals
      go_wp2
      go_ret2
      exact ⟨rfl, HB.out.drew⟩
  · rw [if_pos rfl]
    by_cases h1 : y = 0
    · rw [if_pos h1]
      rw [decide_eq_true h1] at hz
      generalize Lib.itoa x = tx at *
      generalize Lib.itoa y = ty at *
      clear h1
      go_enter Tryz.func73, Tryz.ntmps73
      go_wp2_with fail
      ((with_reducible refine (HK.out _ (HG.out.later ((Below.refl _ _).alloc (Nat.le_refl _) _)) (SlS.two w _ _ _)).mono ?_); rintro e w1 ⟨rfl, hb1⟩)
      have hB1 : Below w.heap.size w w1 := ((Below.refl w.heap.size w).alloc (Nat.le_refl _) _).trans (hb1.mono (Nat.le_of_lt (alloc_lt w _)))
      go_wp2_with fail
      ((with_reducible refine (HCP.out _).mono ?_); rintro e w2 ⟨rfl, hb2⟩)
      have hB2 := hB1.trans (hb2.mono hB1.size); clear hb2
      go_wp2_with fail
      ((with_reducible refine (HCQ.out _).mono ?_); rintro e w3 ⟨rfl, hb3⟩)
      have hB3 := hB2.trans (hb3.mono hB2.size); clear hb3
      have S4 := Sv.new w3 (HG.out.later hB3)
      go_wp2_with fail
      ((with_reducible refine (HT.out _ _ S4).mono ?_); rintro e w5 ⟨rfl, S5⟩)
      have c0 := S5.st.c0
      rw [show ecode true = 0 from rfl] at c0
      have HB := Lib.hid (S5.below hB3 hB3.size)
      clear S4 S5
      go_wp2
      go_ret2
      exact ⟨rfl, HB.out⟩
    · rw [if_neg h1]
      rw [decide_eq_false h1] at hz
      have HL2 := Lib.hid (HL.out h1)
      clear HL
      generalize rtoa (Rat.divInt x y) = tr at *
      generalize Lib.itoa x = tx at *
      generalize Lib.itoa y = ty at *
      clear h1
      go_enter Tryz.func73, Tryz.ntmps73
      go_wp2_with fail
      ((with_reducible refine (HK.out _ (HG.out.later ((Below.refl _ _).alloc (Nat.le_refl _) _)) (SlS.two w _ _ _)).mono ?_); rintro e w1 ⟨rfl, hb1⟩)
      have hB1 : Below w.heap.size w w1 := ((Below.refl w.heap.size w).alloc (Nat.le_refl _) _).trans (hb1.mono (Nat.le_of_lt (alloc_lt w _)))
      go_wp2_with fail
      ((with_reducible refine (HCP.out _).mono ?_); rintro e w2 ⟨rfl, hb2⟩)
      have hB2 := hB1.trans (hb2.mono hB1.size); clear hb2
      go_wp2_with fail
      ((with_reducible refine (HCQ.out _).mono ?_); rintro e w3 ⟨rfl, hb3⟩)
      have hB3 := hB2.trans (hb3.mono hB2.size); clear hb3
      have S4 := Sv.new w3 (HG.out.later hB3)
      go_wp2_with fail
      ((with_reducible refine (HT.out _ _ S4).mono ?_); rintro e w5 ⟨rfl, S5⟩)
      have c0 := S5.st.c0
      rw [show ecode true = 0 from rfl] at c0
      go_wp2_with fail
      ((with_reducible refine (HL2.out _ _ _ S5).mono ?_); rintro e w6 ⟨rfl, S6⟩)
      have c1 := S6.st.c0
      rw [show ecode true = 0 from rfl] at c1
      have HB := Lib.hid (S6.below hB3 hB3.size)
      clear S4 S5 S6 c0
      go_wp2_with fail
      go_region
      all_goals
        go_wp2
        go_ret2
        exact ⟨rfl, HB.out.drew⟩
set_option maxRecDepth 100000 in
set_option maxHeartbeats 4000000 in
theorem madeDiv_ok (p q : Rat) (w : World) (hg : Good w) (hp : okQ p) (hq : okQ q) (hf : firstR [rtoa p, rtoa q] = 0) (h0 : q ≠ 0) :
    Calls Tryz.prog 73 #[.string ⟨(rtoa p).toArray⟩, .string ⟨(rtoa q).toArray⟩, .func (.func 85) #[] #[]] w (Ret w (ans2 (divQ p q))) := by
  have hk := fun W hW hS => checks_c (v := .slice (some ⟨w.heap.size, 0, none⟩) 2 2) [rtoa p, rtoa q] W hW hS (by simp) (list2_le (tlen hp) (tlen hq))
  rw [hf] at hk
  have HK := Lib.hid hk
  have HG := Lib.hid hg
  have HCP := Lib.hid (fun W => cut_q p W hp)
  have HCQ := Lib.hid (fun W => cut_q q W hq)
  have HT := Lib.hid (fun W g S => cDiv p.num p.den q.num q.den g W S hp.nb hp.db hq.nb hq.db)
  rw [← mDiv p q h0]
  have hx : (tDiv1 p.num q.den).1.natAbs < big := dk_lng _ _
  have hy : (tDiv2 p.num p.den q.num q.den).1.natAbs < big := dk_lng _ _
  generalize (tDiv2 p.num p.den q.num q.den).2 = s at *
  generalize (tDiv2 p.num p.den q.num q.den).1 = y at *
  generalize (tDiv1 p.num q.den).1 = x at *
  have HL := Lib.hid (fun h0 g w0 W S => lowL x y g w0 W S hx hy h0)
  have hz := itoa_is_zero (n := y)
  clear hk hp hq hf hg hx hy h0
  generalize rhas (rtoa p) = o1 at *
  generalize rhas (rtoa q) = o2 at *
  generalize rtoa p = ta at *
  generalize rtoa q = tb at *
  generalize Lib.itoa p.num = t1 at *
  generalize Lib.itoa (p.den : Int) = t2 at *
  generalize Lib.itoa q.num = t3 at *
  generalize Lib.itoa (q.den : Int) = t4 at *
  unfold madeR
  cases s
  · rw [if_neg (by simp)]
    generalize Lib.itoa x = tx at *
    generalize Lib.itoa y = ty at *
    clear hz
    go_enter Tryz.func73, Tryz.ntmps73
    go_wp2_with fail
    ((with_reducible refine (HK.out _ (HG.out.later ((Below.refl _ _).alloc (Nat.le_refl _) _)) (SlS.two w _ _ _)).mono ?_); rintro e w1 ⟨rfl, hb1⟩)
    have hB1 : Below w.heap.size w w1 := ((Below.refl w.heap.size w).alloc (Nat.le_refl _) _).trans (hb1.mono (Nat.le_of_lt (alloc_lt w _)))
    go_wp2_with fail
    ((with_reducible refine (HCP.out _).mono ?_); rintro e w2 ⟨rfl, hb2⟩)
    have hB2 := hB1.trans (hb2.mono hB1.size); clear hb2
    go_wp2_with fail
    ((with_reducible refine (HCQ.out _).mono ?_); rintro e w3 ⟨rfl, hb3⟩)
    have hB3 := hB2.trans (hb3.mono hB2.size); clear hb3
    have S4 := Sv.new w3 (HG.out.later hB3)
    go_wp2_with fail
    ((with_reducible refine (HT.out _ _ S4).mono ?_); rintro e w5 ⟨rfl, S5⟩)
    have c0 := S5.st.c0
    rw [show ecode false = 11 from rfl] at c0
    have HB := Lib.hid (S5.below hB3 hB3.size)
    clear S4 S5
    go_wp2_with fail
    go_region
    all_goals
      go_wp2
      go_ret2
      exact ⟨rfl, HB.out.drew⟩
  · rw [if_pos rfl]
    by_cases h1 : y = 0
    · rw [if_pos h1]
      rw [decide_eq_true h1] at hz
      generalize Lib.itoa x = tx at *
      generalize Lib.itoa y = ty at *
      clear h1
      go_enter Tryz.func73, Tryz.ntmps73
      go_wp2_with fail
      ((with_reducible refine (HK.out _ (HG.out.later ((Below.refl _ _).alloc (Nat.le_refl _) _)) (SlS.two w _ _ _)).mono ?_); rintro e w1 ⟨rfl, hb1⟩)
      have hB1 : Below w.heap.size w w1 := ((Below.refl w.heap.size w).alloc (Nat.le_refl _) _).trans (hb1.mono (Nat.le_of_lt (alloc_lt w _)))
      go_wp2_with fail
      ((with_reducible refine (HCP.out _).mono ?_); rintro e w2 ⟨rfl, hb2⟩)
      have hB2 := hB1.trans (hb2.mono hB1.size); clear hb2
      go_wp2_with fail
      ((with_reducible refine (HCQ.out _).mono ?_); rintro e w3 ⟨rfl, hb3⟩)
      have hB3 := hB2.trans (hb3.mono hB2.size); clear hb3
      have S4 := Sv.new w3 (HG.out.later hB3)
      go_wp2_with fail
      ((with_reducible refine (HT.out _ _ S4).mono ?_); rintro e w5 ⟨rfl, S5⟩)
      have c0 := S5.st.c0
      rw [show ecode true = 0 from rfl] at c0
      have HB := Lib.hid (S5.below hB3 hB3.size)
      clear S4 S5
      go_wp2
      go_ret2
      exact ⟨rfl, HB.out⟩
    · rw [if_neg h1]
      rw [decide_eq_false h1] at hz
      have HL2 := Lib.hid (HL.out h1)
      clear HL
      generalize rtoa (Rat.divInt x y) = tr at *
      generalize Lib.itoa x = tx at *
      generalize Lib.itoa y = ty at *
      clear h1
      go_enter Tryz.func73, Tryz.ntmps73
      go_wp2_with fail
      ((with_reducible refine (HK.out _ (HG.out.later ((Below.refl _ _).alloc (Nat.le_refl _) _)) (SlS.two w _ _ _)).mono ?_); rintro e w1 ⟨rfl, hb1⟩)
      have hB1 : Below w.heap.size w w1 := ((Below.refl w.heap.size w).alloc (Nat.le_refl _) _).trans (hb1.mono (Nat.le_of_lt (alloc_lt w _)))
      go_wp2_with fail
      ((with_reducible refine (HCP.out _).mono ?_); rintro e w2 ⟨rfl, hb2⟩)
      have hB2 := hB1.trans (hb2.mono hB1.size); clear hb2
      go_wp2_with fail
      ((with_reducible refine (HCQ.out _).mono ?_); rintro e w3 ⟨rfl, hb3⟩)
      have hB3 := hB2.trans (hb3.mono hB2.size); clear hb3
      have S4 := Sv.new w3 (HG.out.later hB3)
      go_wp2_with fail
      ((with_reducible refine (HT.out _ _ S4).mono ?_); rintro e w5 ⟨rfl, S5⟩)
      have c0 := S5.st.c0
      rw [show ecode true = 0 from rfl] at c0
      go_wp2_with fail
      ((with_reducible refine (HL2.out _ _ _ S5).mono ?_); rintro e w6 ⟨rfl, S6⟩)
      have c1 := S6.st.c0
      rw [show ecode true = 0 from rfl] at c1
      have HB := Lib.hid (S6.below hB3 hB3.size)
      clear S4 S5 S6 c0
      go_wp2_with fail
      go_region
      all_goals
        go_wp2
        go_ret2
        exact ⟨rfl, HB.out.drew⟩
set_option maxRecDepth 100000 in
theorem qAdd_c (a b : Txt) (w : World) (hg : Good w) (ha : a.length ≤ 140737488355328) (hb : b.length ≤ 140737488355328) : Calls Tryz.prog 20 #[.string ⟨a.toArray⟩, .string ⟨b.toArray⟩] w (Ret w (ans2 (rbin [] addQ a b))) := by
  have hB0 := Below.refl w.heap.size w
  have HM := Lib.hid (show ∀ W, Good W → Calls Tryz.prog 73 #[.string ⟨a.toArray⟩, .string ⟨b.toArray⟩, .func (.func 74) #[] #[]] W (Ret W (ans2 (rbin [] addQ a b))) from fun W hW => by
    rcases rbin_cases a b with ⟨hne, hall⟩ | ⟨p, q, rfl, rfl, hp, hq, h0, hall⟩
    · rw [hall]; exact madeAdd_err a b W hW ha hb hne
    · rw [hall]; exact madeAdd_ok p q W hW hp hq h0)
  have HG := Lib.hid hg
  clear hg ha hb
  generalize rbin [] addQ a b = r at *
  go_enter Tryz.func20, Tryz.ntmps20
  go_wp2_with fail
  ((with_reducible refine (HM.out _ (HG.out.later hB0)).mono ?_); rintro e w1 ⟨rfl, hb1⟩)
  have hB1 := hB0.trans (hb1.mono hB0.size); clear hb1
  go_wp2
  go_ret2
  exact ⟨rfl, hB1⟩
set_option maxRecDepth 100000 in
theorem qSub_c (a b : Txt) (w : World) (hg : Good w) (ha : a.length ≤ 140737488355328) (hb : b.length ≤ 140737488355328) : Calls Tryz.prog 22 #[.string ⟨a.toArray⟩, .string ⟨b.toArray⟩] w (Ret w (ans2 (rbin [] subQ a b))) := by
  have hB0 := Below.refl w.heap.size w
  have HM := Lib.hid (show ∀ W, Good W → Calls Tryz.prog 73 #[.string ⟨a.toArray⟩, .string ⟨b.toArray⟩, .func (.func 80) #[] #[]] W (Ret W (ans2 (rbin [] subQ a b))) from fun W hW => by
    rcases rbin_cases a b with ⟨hne, hall⟩ | ⟨p, q, rfl, rfl, hp, hq, h0, hall⟩
    · rw [hall]; exact madeSub_err a b W hW ha hb hne
    · rw [hall]; exact madeSub_ok p q W hW hp hq h0)
  have HG := Lib.hid hg
  clear hg ha hb
  generalize rbin [] subQ a b = r at *
  go_enter Tryz.func22, Tryz.ntmps22
  go_wp2_with fail
  ((with_reducible refine (HM.out _ (HG.out.later hB0)).mono ?_); rintro e w1 ⟨rfl, hb1⟩)
  have hB1 := hB0.trans (hb1.mono hB0.size); clear hb1
  go_wp2
  go_ret2
  exact ⟨rfl, hB1⟩
set_option maxRecDepth 100000 in
theorem qMul_c (a b : Txt) (w : World) (hg : Good w) (ha : a.length ≤ 140737488355328) (hb : b.length ≤ 140737488355328) : Calls Tryz.prog 24 #[.string ⟨a.toArray⟩, .string ⟨b.toArray⟩] w (Ret w (ans2 (rbin [] mulQ a b))) := by
  have hB0 := Below.refl w.heap.size w
  have HM := Lib.hid (show ∀ W, Good W → Calls Tryz.prog 73 #[.string ⟨a.toArray⟩, .string ⟨b.toArray⟩, .func (.func 83) #[] #[]] W (Ret W (ans2 (rbin [] mulQ a b))) from fun W hW => by
    rcases rbin_cases a b with ⟨hne, hall⟩ | ⟨p, q, rfl, rfl, hp, hq, h0, hall⟩
    · rw [hall]; exact madeMul_err a b W hW ha hb hne
    · rw [hall]; exact madeMul_ok p q W hW hp hq h0)
  have HG := Lib.hid hg
  clear hg ha hb
  generalize rbin [] mulQ a b = r at *
  go_enter Tryz.func24, Tryz.ntmps24
  go_wp2_with fail
  ((with_reducible refine (HM.out _ (HG.out.later hB0)).mono ?_); rintro e w1 ⟨rfl, hb1⟩)
  have hB1 := hB0.trans (hb1.mono hB0.size); clear hb1
  go_wp2
  go_ret2
  exact ⟨rfl, hB1⟩
end Go.Proofs.Wk
