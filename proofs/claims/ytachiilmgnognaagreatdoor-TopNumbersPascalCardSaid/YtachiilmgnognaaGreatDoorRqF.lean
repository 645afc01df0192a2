/- THE REFERENCE's RATIONAL NUMBERS: checked sums, differences, products, quotients and the order of texts. -/
import Derived.Test.YtachiilmgnognaaGreatDoorRqE
namespace Go.Proofs.Wk
open Go.RowKit Mt

theorem RS.drew {w : World} {b off : Nat} {ls : List Txt} (h : RS w b off ls) : RS w.drew b off ls := fun j hj => h j hj
theorem RS.single (w : World) (a : Txt) (t : TypeId) : RS (w.alloc (.cells #[.string ⟨a.toArray⟩] t)) w.heap.size 0 [a] := RS.lit w [a] t
theorem RS.drewN {w : World} {b off : Nat} {ls : List Txt} (h : RS w b off ls) (k : Nat) : RS (w.drewN k) b off ls := fun j hj => h j hj
theorem RS.pre3 {w : World} {b : Nat} {t1 t2 t3 t4 t5 : Txt} (h : RS w b 0 [t1, t2, t3, t4, t5]) : RS w b 0 [t1, t2, t3] := fun j hj =>
  match j, hj with
  | 0, _ => h 0 (by simp)
  | 1, _ => h 1 (by simp)
  | 2, _ => h 2 (by simp)
theorem RS.pre2 {w : World} {b : Nat} {t1 t2 t3 t4 t5 : Txt} (h : RS w b 0 [t1, t2, t3, t4, t5]) : RS w b 0 [t1, t2] := fun j hj =>
  match j, hj with
  | 0, _ => h 0 (by simp)
  | 1, _ => h 1 (by simp)
theorem RS.mid2 {w : World} {b : Nat} {t1 t2 t3 t4 t5 : Txt} (h : RS w b 0 [t1, t2, t3, t4, t5]) : RS w b 2 [t3, t4] := fun j hj =>
  match j, hj with
  | 0, _ => h 2 (by simp)
  | 1, _ => h 3 (by simp)
/-- 'long' at a row whose texts are those of integers. -/
theorem long_x (b off c n : Nat) (ns : List Int) (ts : List Txt) (B : Bool) (hB : allB ns = B) (hts : ns.map Lib.itoa = ts) (hn : ns.length = n) (hn5 : n ≤ 5) (hlen : ∀ n ∈ ns, lng n ≤ 100000) (w : World) (hR : RS w b off ts) :
    Calls Tryz.prog 77 #[.slice (some ⟨b, off, none⟩) n c] w (Pur w (.bool (!B))) := by
  subst hB hts hn
  exact long_c b off c ns w hR hn5 hlen
theorem okQ.s19 {q : Rat} (h : okQ q) : szQ q 1900 := h.sz.mono (by omega)
theorem tlen {q : Rat} (h : okQ q) : (rtoa q).length ≤ 140737488355328 := by
  have h1 := lng_itoa q.num; have h2 := lng_itoa (q.den : Int); have := h.sz.1; have := h.sz.2
  unfold rtoa
  split
  · omega
  · rw [List.length_append, List.length_cons]; omega
set_option maxRecDepth 100000 in
set_option maxHeartbeats 2000000 in
theorem rAdd_q (a b : Txt) (w : World) (ha : a.length ≤ 140737488355328) (hb : b.length ≤ 140737488355328) : Calls Tryz.prog 21 #[.string ⟨a.toArray⟩, .string ⟨b.toArray⟩] w (Ret w (ans2 (rbin [] addQ a b))) := by
  have HP := Lib.hid (fun W => pair_c a b W ha hb)
  have hB0 := Below.refl w.heap.size w
  clear ha hb
  rcases rbin_cases a b with ⟨hne, hall⟩ | ⟨p, q, rfl, rfl, hp, hq, h0, hall⟩
  · rw [hall]
    have h3 := bne_ne hne
    generalize firstR [a, b] = x at *
    clear hne hall
    go_enter Tryz.func21, Tryz.ntmps21
    go_wp2_with fail
    ((with_reducible refine (HP.out _).mono ?_); rintro e w1 ⟨rfl, hb1⟩)
    have hB1 := hB0.trans (hb1.mono hB0.size); clear hb1
    go_wp2
    go_ret2
    exact ⟨rfl, hB1⟩
  · rw [hall]
    rw [h0] at HP
    have HC := Lib.hid (fun W => crossed_x p q W hp.s19 hq.s19)
    have HO := Lib.hid (fun W => Plus_q p q W hp.s19 hq.s19)
    have h1 := lng_mulQ hp.sz.1 hq.sz.2; have h2 := lng_mulQ hq.sz.1 hp.sz.2; have h3 := lng_mulQ hp.sz.2 hq.sz.2
    have HS := Lib.hid (fun W => Plus_c (p.num * q.den) (q.num * p.den) W (by omega) (by omega))
    have HL := Lib.hid (fun b c B hB W hR => long_x b 0 c 3 [p.num * q.den, q.num * p.den, p.den * q.den] _ B hB rfl rfl (by omega) (by
      intro n hn
      simp only [List.mem_cons, List.not_mem_nil, or_false] at hn
      rcases hn with rfl | rfl | rfl <;> omega) W hR)
    have HM := Lib.hid (fun b c B hB W hR => long_x b 0 c 1 [p.num * q.den + q.num * p.den] _ B hB rfl rfl (by omega) (by
      intro n hn
      simp only [List.mem_cons, List.not_mem_nil, or_false] at hn
      subst hn
      have := lng_add _ _ h1 h2; omega) W hR)
    simp only [List.map_cons, List.map_nil] at HL HM
    have e : addQ p q = if allB [p.num * q.den, q.num * p.den, p.den * q.den] = true ∧ allB [p.num * q.den + q.num * p.den] = true then (rtoa (p + q), 0) else ([], 11) := by
      unfold addQ; simp only [allB, List.all_cons, List.all_nil, Bool.and_true, Bool.and_eq_true, and_assoc]
    rw [e]
    clear e hp hq h1 h2 h3 hall h0
    generalize allB [p.num * q.den, q.num * p.den, p.den * q.den] = A3 at *
    generalize allB [p.num * q.den + q.num * p.den] = A1 at *
    have HL3 := Lib.hid (fun b c W hR => HL.out b c A3 rfl W hR)
    have HM1 := Lib.hid (fun b c W hR => HM.out b c A1 rfl W hR)
    clear HL HM
    generalize Lib.itoa (p.num * q.den + q.num * p.den) = t6 at *
    generalize Lib.itoa (p.num * q.den) = t1 at *
    generalize Lib.itoa (q.num * p.den) = t2 at *
    generalize Lib.itoa (p.den * q.den) = t3 at *
    generalize Lib.itoa (p.num * q.num) = t4 at *
    generalize Lib.itoa (p.den * q.num) = t5 at *
    generalize rtoa (p + q) = tr at *
    generalize rtoa p = tp at *
    generalize rtoa q = tq at *
    cases A3
    · rw [if_neg (by simp)]
      simp only [Bool.not_false] at HL3
      go_enter Tryz.func21, Tryz.ntmps21
      go_wp2_with fail
      ((with_reducible refine (HP.out _).mono ?_); rintro e w1 ⟨rfl, hb1⟩)
      have hB1 := hB0.trans (hb1.mono hB0.size); clear hb1
      go_wp2_with fail
      (with_reducible refine (HC.out _).mono ?_); rintro e w2 ⟨b, rfl, hb, hb2, hR⟩
      have hB2 := hB1.trans (hb2.mono hB1.size)
      obtain ⟨c0, c1, c2, -, -⟩ := hR.five
      have HR3 := Lib.hid hR.pre3
      clear hR hb2
      have t1 : Hid (∀ q, Calls Tryz.prog 77 #[.slice (some ⟨b, 0, none⟩) 3 5] (w2.drewN q) (fun e w'' => e = .returned (.bool true) ∧ ∃ m, w'' = w2.drewN m)) := Lib.hid (fun q => quiet_pur (HL3.out _ _ _ (HR3.out.drewN q)))
      go_wp2_with fail
      go_quiet (first | (go_at_call 77; with_reducible exact t1.out _))
      go_wp2
      go_ret2
      exact ⟨rfl, below_drewN hB2 _⟩
    · simp only [Bool.not_true] at HL3
      cases A1
      · rw [if_neg (by simp)]
        simp only [Bool.not_false] at HM1
        go_enter Tryz.func21, Tryz.ntmps21
        go_wp2_with fail
        ((with_reducible refine (HP.out _).mono ?_); rintro e w1 ⟨rfl, hb1⟩)
        have hB1 := hB0.trans (hb1.mono hB0.size); clear hb1
        go_wp2_with fail
        (with_reducible refine (HC.out _).mono ?_); rintro e w2 ⟨b, rfl, hb, hb2, hR⟩
        have hB2 := hB1.trans (hb2.mono hB1.size)
        obtain ⟨c0, c1, c2, -, -⟩ := hR.five
        have HR3 := Lib.hid hR.pre3.drew
        clear hR hb2
        go_wp2_with fail
        go_region_with (first | (go_at_call 77; (with_reducible refine (HL3.out _ _ _ HR3.out).mono ?_); rintro e w' ⟨rfl, rfl⟩) | (go_at_call 78; (with_reducible refine (HS.out _).mono ?_); rintro e w3 ⟨rfl, hb3⟩) | (go_at_call 77; (with_reducible refine (HM1.out _ _ _ (RS.single w3 t6 _)).mono ?_); rintro e w' ⟨rfl, rfl⟩))
        all_goals
          go_wp2
          go_ret2
          exact ⟨rfl, (hB2.drew.trans (hb3.mono hB2.size)).alloc (Nat.le_trans hB2.size hb3.size) _⟩
      · rw [if_pos ⟨rfl, rfl⟩]
        simp only [Bool.not_true] at HM1
        go_enter Tryz.func21, Tryz.ntmps21
        go_wp2_with fail
        ((with_reducible refine (HP.out _).mono ?_); rintro e w1 ⟨rfl, hb1⟩)
        have hB1 := hB0.trans (hb1.mono hB0.size); clear hb1
        go_wp2_with fail
        (with_reducible refine (HC.out _).mono ?_); rintro e w2 ⟨b, rfl, hb, hb2, hR⟩
        have hB2 := hB1.trans (hb2.mono hB1.size)
        obtain ⟨c0, c1, c2, -, -⟩ := hR.five
        have HR3 := Lib.hid hR.pre3.drew
        clear hR hb2
        go_wp2_with fail
        go_region_with (first | (go_at_call 77; (with_reducible refine (HL3.out _ _ _ HR3.out).mono ?_); rintro e w' ⟨rfl, rfl⟩) | (go_at_call 78; (with_reducible refine (HS.out _).mono ?_); rintro e w3 ⟨rfl, hb3⟩) | (go_at_call 77; (with_reducible refine (HM1.out _ _ _ (RS.single w3 t6 _)).mono ?_); rintro e w' ⟨rfl, rfl⟩))
        all_goals
          have hB3 := (hB2.drew.trans (hb3.mono hB2.size)).alloc (Nat.le_trans hB2.size hb3.size) (.cells #[.string ⟨t6.toArray⟩] 43)
          go_wp2_with fail
          ((with_reducible refine (HO.out _).mono ?_); rintro e w4 ⟨rfl, hb4⟩)
          have hB4 := hB3.trans (hb4.mono hB3.size); clear hb4
          go_wp2
          go_ret2
          exact ⟨rfl, hB4⟩
set_option maxRecDepth 100000 in
set_option maxHeartbeats 2000000 in
theorem rSub_q (a b : Txt) (w : World) (ha : a.length ≤ 140737488355328) (hb : b.length ≤ 140737488355328) : Calls Tryz.prog 23 #[.string ⟨a.toArray⟩, .string ⟨b.toArray⟩] w (Ret w (ans2 (rbin [] subQ a b))) := by
  have HP := Lib.hid (fun W => pair_c a b W ha hb)
  have hB0 := Below.refl w.heap.size w
  clear ha hb
  rcases rbin_cases a b with ⟨hne, hall⟩ | ⟨p, q, rfl, rfl, hp, hq, h0, hall⟩
  · rw [hall]
    have h3 := bne_ne hne
    generalize firstR [a, b] = x at *
    clear hne hall
    go_enter Tryz.func23, Tryz.ntmps23
    go_wp2_with fail
    ((with_reducible refine (HP.out _).mono ?_); rintro e w1 ⟨rfl, hb1⟩)
    have hB1 := hB0.trans (hb1.mono hB0.size); clear hb1
    go_wp2
    go_ret2
    exact ⟨rfl, hB1⟩
  · rw [hall]
    rw [h0] at HP
    have HC := Lib.hid (fun W => crossed_x p q W hp.s19 hq.s19)
    have HO := Lib.hid (fun W => Minus_q p q W hp.s19 hq.s19)
    have h1 := lng_mulQ hp.sz.1 hq.sz.2; have h2 := lng_mulQ hq.sz.1 hp.sz.2; have h3 := lng_mulQ hp.sz.2 hq.sz.2
    have HS := Lib.hid (fun W => Minus_c (p.num * q.den) (q.num * p.den) W (by omega) (by omega))
    have HL := Lib.hid (fun b c B hB W hR => long_x b 0 c 3 [p.num * q.den, q.num * p.den, p.den * q.den] _ B hB rfl rfl (by omega) (by
      intro n hn
      simp only [List.mem_cons, List.not_mem_nil, or_false] at hn
      rcases hn with rfl | rfl | rfl <;> omega) W hR)
    have HM := Lib.hid (fun b c B hB W hR => long_x b 0 c 1 [p.num * q.den - q.num * p.den] _ B hB rfl rfl (by omega) (by
      intro n hn
      simp only [List.mem_cons, List.not_mem_nil, or_false] at hn
      subst hn
      have := lng_subk h1 h2; omega) W hR)
    simp only [List.map_cons, List.map_nil] at HL HM
    have e : subQ p q = if allB [p.num * q.den, q.num * p.den, p.den * q.den] = true ∧ allB [p.num * q.den - q.num * p.den] = true then (rtoa (p - q), 0) else ([], 11) := by
      unfold subQ; simp only [allB, List.all_cons, List.all_nil, Bool.and_true, Bool.and_eq_true, and_assoc]
    rw [e]
    clear e hp hq h1 h2 h3 hall h0
    generalize allB [p.num * q.den, q.num * p.den, p.den * q.den] = A3 at *
    generalize allB [p.num * q.den - q.num * p.den] = A1 at *
    have HL3 := Lib.hid (fun b c W hR => HL.out b c A3 rfl W hR)
    have HM1 := Lib.hid (fun b c W hR => HM.out b c A1 rfl W hR)
    clear HL HM
    generalize Lib.itoa (p.num * q.den - q.num * p.den) = t6 at *
    generalize Lib.itoa (p.num * q.den) = t1 at *
    generalize Lib.itoa (q.num * p.den) = t2 at *
    generalize Lib.itoa (p.den * q.den) = t3 at *
    generalize Lib.itoa (p.num * q.num) = t4 at *
    generalize Lib.itoa (p.den * q.num) = t5 at *
    generalize rtoa (p - q) = tr at *
    generalize rtoa p = tp at *
    generalize rtoa q = tq at *
    cases A3
    · rw [if_neg (by simp)]
      simp only [Bool.not_false] at HL3
      go_enter Tryz.func23, Tryz.ntmps23
      go_wp2_with fail
      ((with_reducible refine (HP.out _).mono ?_); rintro e w1 ⟨rfl, hb1⟩)
      have hB1 := hB0.trans (hb1.mono hB0.size); clear hb1
      go_wp2_with fail
      (with_reducible refine (HC.out _).mono ?_); rintro e w2 ⟨b, rfl, hb, hb2, hR⟩
      have hB2 := hB1.trans (hb2.mono hB1.size)
      obtain ⟨c0, c1, c2, -, -⟩ := hR.five
      have HR3 := Lib.hid hR.pre3
      clear hR hb2
      have t1 : Hid (∀ q, Calls Tryz.prog 77 #[.slice (some ⟨b, 0, none⟩) 3 5] (w2.drewN q) (fun e w'' => e = .returned (.bool true) ∧ ∃ m, w'' = w2.drewN m)) := Lib.hid (fun q => quiet_pur (HL3.out _ _ _ (HR3.out.drewN q)))
      go_wp2_with fail
      go_quiet (first | (go_at_call 77; with_reducible exact t1.out _))
      go_wp2
      go_ret2
      exact ⟨rfl, below_drewN hB2 _⟩
    · simp only [Bool.not_true] at HL3
      cases A1
      · rw [if_neg (by simp)]
        simp only [Bool.not_false] at HM1
        go_enter Tryz.func23, Tryz.ntmps23
        go_wp2_with fail
        ((with_reducible refine (HP.out _).mono ?_); rintro e w1 ⟨rfl, hb1⟩)
        have hB1 := hB0.trans (hb1.mono hB0.size); clear hb1
        go_wp2_with fail
        (with_reducible refine (HC.out _).mono ?_); rintro e w2 ⟨b, rfl, hb, hb2, hR⟩
        have hB2 := hB1.trans (hb2.mono hB1.size)
        obtain ⟨c0, c1, c2, -, -⟩ := hR.five
        have HR3 := Lib.hid hR.pre3.drew
        clear hR hb2
        go_wp2_with fail
        go_region_with (first | (go_at_call 77; (with_reducible refine (HL3.out _ _ _ HR3.out).mono ?_); rintro e w' ⟨rfl, rfl⟩) | (go_at_call 81; (with_reducible refine (HS.out _).mono ?_); rintro e w3 ⟨rfl, hb3⟩) | (go_at_call 77; (with_reducible refine (HM1.out _ _ _ (RS.single w3 t6 _)).mono ?_); rintro e w' ⟨rfl, rfl⟩))
        all_goals
          go_wp2
          go_ret2
          exact ⟨rfl, (hB2.drew.trans (hb3.mono hB2.size)).alloc (Nat.le_trans hB2.size hb3.size) _⟩
      · rw [if_pos ⟨rfl, rfl⟩]
        simp only [Bool.not_true] at HM1
        go_enter Tryz.func23, Tryz.ntmps23
        go_wp2_with fail
        ((with_reducible refine (HP.out _).mono ?_); rintro e w1 ⟨rfl, hb1⟩)
        have hB1 := hB0.trans (hb1.mono hB0.size); clear hb1
        go_wp2_with fail
        (with_reducible refine (HC.out _).mono ?_); rintro e w2 ⟨b, rfl, hb, hb2, hR⟩
        have hB2 := hB1.trans (hb2.mono hB1.size)
        obtain ⟨c0, c1, c2, -, -⟩ := hR.five
        have HR3 := Lib.hid hR.pre3.drew
        clear hR hb2
        go_wp2_with fail
        go_region_with (first | (go_at_call 77; (with_reducible refine (HL3.out _ _ _ HR3.out).mono ?_); rintro e w' ⟨rfl, rfl⟩) | (go_at_call 81; (with_reducible refine (HS.out _).mono ?_); rintro e w3 ⟨rfl, hb3⟩) | (go_at_call 77; (with_reducible refine (HM1.out _ _ _ (RS.single w3 t6 _)).mono ?_); rintro e w' ⟨rfl, rfl⟩))
        all_goals
          have hB3 := (hB2.drew.trans (hb3.mono hB2.size)).alloc (Nat.le_trans hB2.size hb3.size) (.cells #[.string ⟨t6.toArray⟩] 43)
          go_wp2_with fail
          ((with_reducible refine (HO.out _).mono ?_); rintro e w4 ⟨rfl, hb4⟩)
          have hB4 := hB3.trans (hb4.mono hB3.size); clear hb4
          go_wp2
          go_ret2
          exact ⟨rfl, hB4⟩
set_option maxRecDepth 100000 in
set_option maxHeartbeats 2000000 in
theorem rMul_q (a b : Txt) (w : World) (ha : a.length ≤ 140737488355328) (hb : b.length ≤ 140737488355328) : Calls Tryz.prog 25 #[.string ⟨a.toArray⟩, .string ⟨b.toArray⟩] w (Ret w (ans2 (rbin [] mulQ a b))) := by
  have HP := Lib.hid (fun W => pair_c a b W ha hb)
  have hB0 := Below.refl w.heap.size w
  clear ha hb
  rcases rbin_cases a b with ⟨hne, hall⟩ | ⟨p, q, rfl, rfl, hp, hq, h0, hall⟩
  · rw [hall]
    have h3 := bne_ne hne
    generalize firstR [a, b] = x at *
    clear hne hall
    go_enter Tryz.func25, Tryz.ntmps25
    go_wp2_with fail
    ((with_reducible refine (HP.out _).mono ?_); rintro e w1 ⟨rfl, hb1⟩)
    have hB1 := hB0.trans (hb1.mono hB0.size); clear hb1
    go_wp2
    go_ret2
    exact ⟨rfl, hB1⟩
  · rw [hall]
    rw [h0] at HP
    have HC := Lib.hid (fun W => crossed_x p q W hp.s19 hq.s19)
    have HO := Lib.hid (fun W => Times_q p q W hp.s19 hq.s19)
    have h1 := lng_mulQ hp.sz.2 hq.sz.2; have h2 := lng_mulQ hp.sz.1 hq.sz.1
    have HL := Lib.hid (fun b c B hB W hR => long_x b 2 c 2 [p.den * q.den, p.num * q.num] _ B hB rfl rfl (by omega) (by
      intro n hn
      simp only [List.mem_cons, List.not_mem_nil, or_false] at hn
      rcases hn with rfl | rfl <;> omega) W hR)
    simp only [List.map_cons, List.map_nil] at HL
    have e : mulQ p q = if allB [p.den * q.den, p.num * q.num] = true then (rtoa (p * q), 0) else ([], 11) := rfl
    rw [e]
    clear e hp hq h1 h2 hall h0
    generalize allB [p.den * q.den, p.num * q.num] = A at *
    have HL2 := Lib.hid (fun b c W hR => HL.out b c A rfl W hR)
    clear HL
    generalize Lib.itoa (p.num * q.den) = t1 at *
    generalize Lib.itoa (q.num * p.den) = t2 at *
    generalize Lib.itoa (p.den * q.den) = t3 at *
    generalize Lib.itoa (p.num * q.num) = t4 at *
    generalize Lib.itoa (p.den * q.num) = t5 at *
    generalize rtoa (p * q) = tr at *
    generalize rtoa p = tp at *
    generalize rtoa q = tq at *
    cases A
    · rw [if_neg (by simp)]
      simp only [Bool.not_false] at HL2
      go_enter Tryz.func25, Tryz.ntmps25
      go_wp2_with fail
      ((with_reducible refine (HP.out _).mono ?_); rintro e w1 ⟨rfl, hb1⟩)
      have hB1 := hB0.trans (hb1.mono hB0.size); clear hb1
      go_wp2_with fail
      (with_reducible refine (HC.out _).mono ?_); rintro e w2 ⟨b, rfl, hb, hb2, hR⟩
      have hB2 := hB1.trans (hb2.mono hB1.size)
      have HR3 := Lib.hid hR.mid2
      clear hR hb2
      go_wp2_with fail
      ((with_reducible refine (HL2.out _ _ _ HR3.out).mono ?_); rintro e w' ⟨rfl, rfl⟩)
      go_wp2
      go_ret2
      exact ⟨rfl, hB2⟩
    · rw [if_pos rfl]
      simp only [Bool.not_true] at HL2
      go_enter Tryz.func25, Tryz.ntmps25
      go_wp2_with fail
      ((with_reducible refine (HP.out _).mono ?_); rintro e w1 ⟨rfl, hb1⟩)
      have hB1 := hB0.trans (hb1.mono hB0.size); clear hb1
      go_wp2_with fail
      (with_reducible refine (HC.out _).mono ?_); rintro e w2 ⟨b, rfl, hb, hb2, hR⟩
      have hB2 := hB1.trans (hb2.mono hB1.size)
      have HR3 := Lib.hid hR.mid2
      clear hR hb2
      go_wp2_with fail
      ((with_reducible refine (HL2.out _ _ _ HR3.out).mono ?_); rintro e w' ⟨rfl, rfl⟩)
      go_wp2_with fail
      ((with_reducible refine (HO.out _).mono ?_); rintro e w3 ⟨rfl, hb3⟩)
      have hB3 := hB2.trans (hb3.mono hB2.size); clear hb3
      go_wp2
      go_ret2
      exact ⟨rfl, hB3⟩
set_option maxRecDepth 100000 in
set_option maxHeartbeats 2000000 in
theorem rCompare_q (a b : Txt) (w : World) (ha : a.length ≤ 140737488355328) (hb : b.length ≤ 140737488355328) : Calls Tryz.prog 29 #[.string ⟨a.toArray⟩, .string ⟨b.toArray⟩] w (Ret w (int2 (rbin 0 cmpE a b))) := by
  have HP := Lib.hid (fun W => pair_c a b W ha hb)
  have hB0 := Below.refl w.heap.size w
  clear ha hb
  rcases rbin_cases a b with ⟨hne, hall⟩ | ⟨p, q, rfl, rfl, hp, hq, h0, hall⟩
  · rw [hall]
    have h3 := bne_ne hne
    generalize firstR [a, b] = x at *
    clear hne hall
    go_enter Tryz.func29, Tryz.ntmps29
    go_wp2_with fail
    ((with_reducible refine (HP.out _).mono ?_); rintro e w1 ⟨rfl, hb1⟩)
    have hB1 := hB0.trans (hb1.mono hB0.size); clear hb1
    go_wp2
    go_ret2
    exact ⟨rfl, hB1⟩
  · rw [hall]
    rw [h0] at HP
    have HC := Lib.hid (fun W => crossed_x p q W hp.s19 hq.s19)
    have HO := Lib.hid (fun W => Order_q p q W hp.s19 hq.s19)
    have h1 := lng_mulQ hp.sz.1 hq.sz.2; have h2 := lng_mulQ hq.sz.1 hp.sz.2
    have HL := Lib.hid (fun b c B hB W hR => long_x b 0 c 2 [p.num * q.den, q.num * p.den] _ B hB rfl rfl (by omega) (by
      intro n hn
      simp only [List.mem_cons, List.not_mem_nil, or_false] at hn
      rcases hn with rfl | rfl <;> omega) W hR)
    simp only [List.map_cons, List.map_nil] at HL
    have e : cmpE p q = if allB [p.num * q.den, q.num * p.den] = true then (cmpQ p q, 0) else (0, 11) := rfl
    rw [e]
    clear e hp hq h1 h2 hall h0
    generalize allB [p.num * q.den, q.num * p.den] = A at *
    have HL2 := Lib.hid (fun b c W hR => HL.out b c A rfl W hR)
    clear HL
    generalize Lib.itoa (p.num * q.den) = t1 at *
    generalize Lib.itoa (q.num * p.den) = t2 at *
    generalize Lib.itoa (p.den * q.den) = t3 at *
    generalize Lib.itoa (p.num * q.num) = t4 at *
    generalize Lib.itoa (p.den * q.num) = t5 at *
    generalize cmpQ p q = tr at *
    generalize rtoa p = tp at *
    generalize rtoa q = tq at *
    cases A
    · rw [if_neg (by simp)]
      simp only [Bool.not_false] at HL2
      go_enter Tryz.func29, Tryz.ntmps29
      go_wp2_with fail
      ((with_reducible refine (HP.out _).mono ?_); rintro e w1 ⟨rfl, hb1⟩)
      have hB1 := hB0.trans (hb1.mono hB0.size); clear hb1
      go_wp2_with fail
      (with_reducible refine (HC.out _).mono ?_); rintro e w2 ⟨b, rfl, hb, hb2, hR⟩
      have hB2 := hB1.trans (hb2.mono hB1.size)
      have HR3 := Lib.hid hR.pre2
      clear hR hb2
      go_wp2_with fail
      ((with_reducible refine (HL2.out _ _ _ HR3.out).mono ?_); rintro e w' ⟨rfl, rfl⟩)
      go_wp2
      go_ret2
      exact ⟨rfl, hB2⟩
    · rw [if_pos rfl]
      simp only [Bool.not_true] at HL2
      go_enter Tryz.func29, Tryz.ntmps29
      go_wp2_with fail
      ((with_reducible refine (HP.out _).mono ?_); rintro e w1 ⟨rfl, hb1⟩)
      have hB1 := hB0.trans (hb1.mono hB0.size); clear hb1
      go_wp2_with fail
      (with_reducible refine (HC.out _).mono ?_); rintro e w2 ⟨b, rfl, hb, hb2, hR⟩
      have hB2 := hB1.trans (hb2.mono hB1.size)
      have HR3 := Lib.hid hR.pre2
      clear hR hb2
      go_wp2_with fail
      ((with_reducible refine (HL2.out _ _ _ HR3.out).mono ?_); rintro e w' ⟨rfl, rfl⟩)
      go_wp2_with fail
      ((with_reducible refine (HO.out _).mono ?_); rintro e w3 ⟨rfl, hb3⟩)
      have hB3 := hB2.trans (hb3.mono hB2.size); clear hb3
      go_wp2
      go_ret2
      exact ⟨rfl, hB3⟩
end Go.Proofs.Wk
