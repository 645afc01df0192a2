/- THE LAW RatioOrders: it returns true at all texts and numbers. -/
import Derived.Test.YtachiilmgnognaaGreatDoorL2R
namespace Go.Proofs.Wk
open Go.RowKit Mt

/-- The greatest integer that is not greater. -/
def flQ (p : Rat) : Int := p.num.fdiv p.den
theorem flQ_floor (p : Rat) : flQ p = p.floor := by
  unfold flQ
  rw [Rat.floor_def, Int.fdiv_eq_ediv_of_nonneg _ (by omega)]
theorem flQ_le (p : Rat) : (flQ p : Rat) ≤ p := by rw [flQ_floor]; exact Rat.floor_le p
theorem flQ_lt (p : Rat) : p < (flQ p : Rat) + 1 := by
  have := Rat.lt_floor_add_one p
  rw [flQ_floor]
  rwa [Rat.intCast_add, show ((1 : Int) : Rat) = 1 from rfl] at this
theorem flQ_sz {p : Rat} {k : Nat} (h : szQ p k) : lng (flQ p) ≤ k := Nat.le_trans (lng_mono (fdiv_le (den_ne p))) h.1
theorem int_rat (n : Int) : Rat.divInt n 1 = (n : Rat) := by rw [Rat.divInt_eq_div, show ((1 : Int) : Rat) = 1 from rfl]; grind
theorem szQ_int {n : Int} {k : Nat} (h : lng n ≤ k) (hk : 1 ≤ k) : szQ (n : Rat) k := ⟨by rw [Rat.num_intCast]; exact h, by rw [Rat.den_intCast]; exact Nat.le_trans lng_one hk⟩
theorem cmpQ_swap (p q : Rat) : cmpQ q p = -cmpQ p q := by
  unfold cmpQ
  have := cmp_spec (p.num * q.den) (q.num * p.den); have := cmp_spec (q.num * p.den) (p.num * q.den)
  omega
theorem sgnQ_is_zero {p q : Rat} : (sgnQ (p - q) = 0) ↔ p = q := by
  rcases sgnQ_spec (p - q) with ⟨h, e⟩ | ⟨h, e⟩ | ⟨h, e⟩
  · rw [e]; constructor
    · intro h1; omega
    · intro h1; rw [h1, Rat.sub_self] at h; exact absurd h Rat.lt_irrefl
  · rw [e]; constructor
    · intro _; grind
    · intro _; rfl
  · rw [e]; constructor
    · intro h1; omega
    · intro h1; rw [h1, Rat.sub_self] at h; exact absurd h Rat.lt_irrefl
theorem rtoa_eq_dec (p q : Rat) : (rtoa p == rtoa q) = decide (p = q) := by
  by_cases h : p = q
  · subst h; simp
  · rw [decide_eq_false h, beq_eq_false_iff_ne]; exact fun e => h (rtoa_inj e)
theorem rtoa_one : rtoa 1 = [49] := by
  unfold rtoa; rw [if_pos (show (1 : Rat).den = 1 from rfl)]; exact itoa_one
theorem szQ_one : szQ 1 1 := ⟨lng_one, lng_one⟩
set_option maxRecDepth 100000 in
set_option maxHeartbeats 4000000 in
theorem orders_yes (p q : Rat) (n : Int) (w : World) (hg : Good w) (hp : szQ p 30) (hq : szQ q 30) (n0 : 0 ≤ n) (n1 : n ≤ 65535) (hw : [rtoa p, rtoa q].any wrongQ = false) :
    Calls Tryz.prog 9 #[.string ⟨(rtoa p).toArray⟩, .string ⟨(rtoa q).toArray⟩, .int .u16 n] w (Ret w (.bool true)) := by
  have HG := Lib.hid hg
  have op := hp.ok (by omega); have oq := hq.ok (by omega)
  have hr := right_c w.heap.size 0 2 2 [rtoa p, rtoa q] (w.alloc (.cells #[.string ⟨(rtoa p).toArray⟩, .string ⟨(rtoa q).toArray⟩] 22)) (RS.lit w [rtoa p, rtoa q] _) (alloc_lt w _) rfl (by omega) (list2_le (tlen op) (tlen oq))
  rw [hw, Bool.not_false] at hr
  have HR := Lib.hid hr
  have zd := szQ_sub hp hq
  have zf := szQ_int (flQ_sz hp) (by omega)
  have zr := szQ_sub hp zf
  have d1 := fun W hW => qSub_c (rtoa p) (rtoa q) W hW (tlen op) (tlen oq)
  rw [rbin_ok [] subQ op oq, subQ_sz hp hq (by omega)] at d1
  have d2 := fun W hW => qSign_c (rtoa (p - q)) W hW (tlen (zd.ok (by omega)))
  rw [run1_ok 0 signQ (zd.ok (by omega)), show signQ (p - q) = (cmpQ p q, 0) by unfold signQ; rw [cmpQ_sub]] at d2
  have d3 := fun W hW => qCompare_c (rtoa p) (rtoa q) W hW (tlen op) (tlen oq)
  rw [rbin_ok 0 cmpE op oq, cmpE_sz hp hq (by omega)] at d3
  have d4 := fun W hW => qCompare_c (rtoa q) (rtoa p) W hW (tlen oq) (tlen op)
  rw [rbin_ok 0 cmpE oq op, cmpE_sz hq hp (by omega), cmpQ_swap] at d4
  have d5 := fun W hW => qFloor_c (rtoa p) W hW (tlen op)
  rw [run1_ok [] floorQ op, show floorQ p = (Lib.itoa (flQ p), 0) from rfl] at d5
  have bf := flQ_sz hp
  have d6 := fun W hW => qMake_c (Lib.itoa (flQ p)) (Lib.itoa 1) W hW (txt_ok (by omega)) (txt_ok (Nat.le_trans lng_one (by omega)))
  rw [mk2_itoa (lng_big2 (by omega)) one_big, show makQ (flQ p) 1 = (rtoa (flQ p : Rat), 0) by unfold makQ; rw [if_neg (by omega), int_rat], itoa_one] at d6
  have d7 := fun W hW => qSub_c (rtoa p) (rtoa (flQ p : Rat)) W hW (tlen op) (tlen (zf.ok (by omega)))
  rw [rbin_ok [] subQ op (zf.ok (by omega)), subQ_sz hp zf (by omega)] at d7
  have d8 := fun W hW => qSign_c (rtoa (p - (flQ p : Rat))) W hW (tlen (zr.ok (by omega)))
  rw [run1_ok 0 signQ (zr.ok (by omega)), show signQ (p - (flQ p : Rat)) = (sgnQ (p - (flQ p : Rat)), 0) from rfl] at d8
  have d9 := fun W hW => qCompare_c (rtoa (p - (flQ p : Rat))) (rtoa 1) W hW (tlen (zr.ok (by omega))) (tlen (szQ_one.ok (by omega)))
  rw [rbin_ok 0 cmpE (zr.ok (by omega)) (szQ_one.ok (by omega)), cmpE_sz zr szQ_one (by omega), rtoa_one] at d9
  have f1 : ¬ sgnQ (p - (flQ p : Rat)) < 0 := by
    rcases sgnQ_spec (p - (flQ p : Rat)) with ⟨h, e⟩ | ⟨h, e⟩ | ⟨h, e⟩
    · have := flQ_le p; exfalso; grind
    · omega
    · omega
  have f2 : cmpQ (p - (flQ p : Rat)) 1 < 0 := by
    rw [cmpQ_sub, sgnQ_neg1 (by have := flQ_lt p; grind)]; omega
  have e1 := fun W hW => qParts_c (rtoa p) W hW (tlen op)
  rw [run1_ok ([], []) partQ op, show partQ p = ((Lib.itoa p.num, Lib.itoa (p.den : Int)), 0) from rfl] at e1
  have e2 := fun W hW => wOf_c (-1 - n) W hW (by omega) (by omega)
  have lk : lng (-1 - n) ≤ 19 := lng_i64 (by omega) (by omega)
  have lm1 := lng_mul p.num (-1 - n) hp.1 lk
  have lm2 := lng_mul (p.den : Int) (-1 - n) hp.2 lk
  have e3 := fun W hW => mulI p.num (-1 - n) W hW (by have := hp.1; omega) (by omega) (by omega)
  have e4 := fun W hW => mulI (p.den : Int) (-1 - n) W hW (by have := hp.2; omega) (by omega) (by omega)
  have e5 := fun W hW => qMake_c (Lib.itoa (p.num * (-1 - n))) (Lib.itoa (p.den * (-1 - n))) W hW (txt_ok (by omega)) (txt_ok (by omega))
  rw [mk2_itoa (lng_big2 (by omega)) (lng_big2 (by omega)), show makQ (p.num * (-1 - n)) (p.den * (-1 - n)) = (rtoa p, 0) by
    unfold makQ
    rw [if_neg (Int.mul_ne_zero (den_ne p) (by omega)), Rat.divInt_mul_right (by omega), Rat.num_divInt_den]] at e5
  have k1 : IntKind.i64.wrap (-1 - n) = -1 - n := IntWalk.i64_in _ (by omega)
  have k2 : IntKind.i64.wrap (-cmpQ p q) = -cmpQ p q := IntWalk.i64_in _ (by have := cmpQ_bd p q; omega)
  have k3 : (cmpQ p q == 0) = (rtoa p == rtoa q) := by
    rw [rtoa_eq_dec, Bool.eq_iff_iff, beq_iff_eq, decide_eq_true_eq, cmpQ_sub]; exact sgnQ_is_zero
  have D1 := Lib.hid d1; have D2 := Lib.hid d2; have D3 := Lib.hid d3; have D4 := Lib.hid d4; have D5 := Lib.hid d5; have D6 := Lib.hid d6; have D7 := Lib.hid d7; have D8 := Lib.hid d8; have D9 := Lib.hid d9
  have E1 := Lib.hid e1; have E2 := Lib.hid e2; have E3 := Lib.hid e3; have E4 := Lib.hid e4; have E5 := Lib.hid e5
  clear d1 d2 d3 d4 d5 d6 d7 d8 d9 e1 e2 e3 e4 e5 lm1 lm2 lk bf zd zf zr op oq hr hp hq hw hg
  generalize cmpQ (p - (flQ p : Rat)) 1 = c3 at *
  generalize sgnQ (p - (flQ p : Rat)) = c4 at *
  generalize rtoa (p - (flQ p : Rat)) = t1 at *
  generalize rtoa (flQ p : Rat) = t2 at *
  generalize rtoa (p - q) = t3 at *
  generalize Lib.itoa (flQ p) = t4 at *
  generalize Lib.itoa (p.num * (-1 - n)) = t5 at *
  generalize Lib.itoa (p.den * (-1 - n)) = t6 at *
  generalize Lib.itoa (-1 - n) = t7 at *
  generalize Lib.itoa p.num = t8 at *
  generalize Lib.itoa (p.den : Int) = t9 at *
  obtain ⟨c2, q2⟩ : ∃ v, -cmpQ p q = v := ⟨_, rfl⟩
  have k4 := k2.trans q2
  rw [q2] at D4
  clear k2 q2
  generalize cmpQ p q = c1 at *
  generalize rtoa p = tp at *
  generalize rtoa q = tq at *
  obtain ⟨nn, q3⟩ : ∃ v, -1 - n = v := ⟨_, rfl⟩
  have k5 := k1.trans q3
  rw [q3] at E2
  clear k1 q3
  generalize hB : (tp == tq) = B at *
  go_enter Tryz.func9, Tryz.ntmps9
  go_wp2_with fail
  ((with_reducible refine HR.out.mono ?_); rintro e w1 ⟨rfl, hb1⟩)
  have hB1 : Below w.heap.size w w1 := ((Below.refl w.heap.size w).alloc (Nat.le_refl _) _).trans (hb1.mono (Nat.le_of_lt (alloc_lt w _)))
  clear hb1
  go_wp2_with fail
  ((with_reducible refine (D1.out _ (HG.out.later hB1)).mono ?_); rintro e w2 ⟨rfl, hb2⟩)
  have hB2 := hB1.trans (hb2.mono hB1.size); clear hb2
  go_wp2_with fail
  ((with_reducible refine (D2.out _ (HG.out.later hB2)).mono ?_); rintro e w3 ⟨rfl, hb3⟩)
  have hB3 := hB2.trans (hb3.mono hB2.size); clear hb3
  go_wp2_with fail
  ((with_reducible refine (D3.out _ (HG.out.later hB3)).mono ?_); rintro e w4 ⟨rfl, hb4⟩)
  have hB4 := hB3.trans (hb4.mono hB3.size); clear hb4
  go_wp2_with fail
  ((with_reducible refine (D4.out _ (HG.out.later hB4)).mono ?_); rintro e w5 ⟨rfl, hb5⟩)
  have hB5 := hB4.trans (hb5.mono hB4.size); clear hb5
  go_wp2_with fail
  ((with_reducible refine (D5.out _ (HG.out.later hB5)).mono ?_); rintro e w6 ⟨rfl, hb6⟩)
  have hB6 := hB5.trans (hb6.mono hB5.size); clear hb6
  go_wp2_with fail
  ((with_reducible refine (D6.out _ (HG.out.later hB6)).mono ?_); rintro e w7 ⟨rfl, hb7⟩)
  have hB7 := hB6.trans (hb7.mono hB6.size); clear hb7
  go_wp2_with fail
  ((with_reducible refine (D7.out _ (HG.out.later hB7)).mono ?_); rintro e w8 ⟨rfl, hb8⟩)
  have hB8 := hB7.trans (hb8.mono hB7.size); clear hb8
  go_wp2_with fail
  ((with_reducible refine (D8.out _ (HG.out.later hB8)).mono ?_); rintro e w9 ⟨rfl, hb9⟩)
  have hB9 := hB8.trans (hb9.mono hB8.size); clear hb9
  go_wp2_with fail
  ((with_reducible refine (D9.out _ (HG.out.later hB9)).mono ?_); rintro e w10 ⟨rfl, hb10⟩)
  have hB10 := hB9.trans (hb10.mono hB9.size); clear hb10
  go_wp2_with fail
  ((with_reducible refine (E1.out _ (HG.out.later hB10)).mono ?_); rintro e w11 ⟨rfl, hb11⟩)
  have hB11 := hB10.trans (hb11.mono hB10.size); clear hb11
  go_wp2_with fail
  ((with_reducible refine (E2.out _ (HG.out.later hB11)).mono ?_); rintro e w12 ⟨rfl, hb12⟩)
  have hB12 := hB11.trans (hb12.mono hB11.size); clear hb12
  go_wp2_with fail
  ((with_reducible refine (E3.out _ (HG.out.later hB12)).mono ?_); rintro e w13 ⟨rfl, hb13⟩)
  have hB13 := hB12.trans (hb13.mono hB12.size); clear hb13
  go_wp2_with fail
  ((with_reducible refine (E4.out _ (HG.out.later hB13)).mono ?_); rintro e w14 ⟨rfl, hb14⟩)
  have hB14 := hB13.trans (hb14.mono hB13.size); clear hb14
  go_wp2_with fail
  ((with_reducible refine (E5.out _ (HG.out.later hB14)).mono ?_); rintro e w15 ⟨rfl, hb15⟩)
  have hB15 := hB14.trans (hb15.mono hB14.size); clear hb15
  go_wp2_with fail
  ((with_reducible refine (awake2_c _ (HG.out.later hB15)).mono ?_); rintro e w16 ⟨rfl, hb16⟩)
  have hB16 := hB15.trans (hb16.mono hB15.size); clear hb16
  go_wp2
  go_ret
  exact ⟨rfl, hB16⟩
set_option maxRecDepth 100000 in
theorem orders_c (a b : Txt) (n : Int) (w : World) (hg : Good w) (ha : a.length ≤ 140737488355328) (hb : b.length ≤ 140737488355328) (hn : 0 ≤ n ∧ n ≤ 65535) :
    Calls Tryz.prog 9 #[.string ⟨a.toArray⟩, .string ⟨b.toArray⟩, .int .u16 n] w (Ret w (.bool true)) := by
  cases hw : [a, b].any wrongQ with
  | false =>
    have h1 := hw
    simp only [List.any_cons, List.any_nil, Bool.or_false, Bool.or_eq_false_iff] at h1
    obtain ⟨p, rfl, hp⟩ := right_q h1.1
    obtain ⟨q, rfl, hq⟩ := right_q h1.2
    exact orders_yes p q n w hg hp hq hn.1 hn.2 hw
  | true =>
    have HG := Lib.hid hg
    have hr := right_c w.heap.size 0 2 2 [a, b] (w.alloc (.cells #[.string ⟨a.toArray⟩, .string ⟨b.toArray⟩] 22)) (RS.lit w [a, b] _) (alloc_lt w _) rfl (by omega) (list2_le ha hb)
    rw [hw, Bool.not_true] at hr
    have HR := Lib.hid hr
    clear hr hw ha hb hn hg
    go_enter Tryz.func9, Tryz.ntmps9
    go_wp2_with fail
    ((with_reducible refine HR.out.mono ?_); rintro e w1 ⟨rfl, hb1⟩)
    have hB1 : Below w.heap.size w w1 := ((Below.refl w.heap.size w).alloc (Nat.le_refl _) _).trans (hb1.mono (Nat.le_of_lt (alloc_lt w _)))
    clear hb1
    go_wp2_with fail
    ((with_reducible refine (awake2_c _ (HG.out.later hB1)).mono ?_); rintro e w2 ⟨rfl, hb2⟩)
    have hB2 := hB1.trans (hb2.mono hB1.size); clear hb2
    go_wp2
    go_ret
    exact ⟨rfl, hB2⟩
end Go.Proofs.Wk
