/- THE REFERENCE's RATIONAL NUMBERS: signs, checked sums, differences, products, quotients. -/
import Derived.Test.YtachiilmgnognaaGreatDoorRqD
namespace Go.Proofs.Wk
open Go.RowKit Mt

theorem lng_0 : lng (0 : Int) ≤ 1 := (lng_le 0 (k := 1) (by omega)).2 (by decide)
set_option maxRecDepth 100000 in
theorem Signum_q (p : Rat) (w : World) (hp : szQ p 1900) : Calls Tryz.prog 63 #[.string ⟨(rtoa p).toArray⟩] w (Ret w (.int .i64 (sgnQ p))) := by
  have HS := Lib.hid (fun W => Split_i p W hp (by omega))
  have ho := fun W => show Calls _ _ _ W (Ret W (.int .i64 (sgnQ p))) from Order_c p.num 0 W (by have := hp.1; omega) (by have := lng_0; omega)
  rw [itoa_zero] at ho
  have HO := Lib.hid ho
  have hB0 := Below.refl w.heap.size w
  clear ho hp
  generalize sgnQ p = s at *
  generalize rtoa p = tp at *
  generalize Lib.itoa p.num = t1 at *
  generalize Lib.itoa (p.den : Int) = t2 at *
  go_enter Tryz.func63, Tryz.ntmps63
  go_wp2_with fail
  ((with_reducible refine (HS.out _).mono ?_); rintro e w1 ⟨rfl, hb1⟩)
  have hB1 := hB0.trans (hb1.mono hB0.size); clear hb1
  go_wp2_with fail
  ((with_reducible refine (HO.out _).mono ?_); rintro e w2 ⟨rfl, hb2⟩)
  have hB2 := hB1.trans (hb2.mono hB1.size); clear hb2
  go_wp2
  go_ret
  exact ⟨rfl, hB2⟩
set_option maxRecDepth 100000 in
theorem Turned_q (q : Rat) (w : World) (hq : szQ q 1900) : Calls Tryz.prog 100 #[.string ⟨(rtoa q).toArray⟩] w (Ret w (.string ⟨(rtoa (-q)).toArray⟩)) := by
  have hm := fun W => Minus_q 0 q W ⟨Nat.le_trans lng_0 (by omega), Nat.le_trans lng_one (by omega)⟩ hq
  rw [rtoa_zero, show (0 : Rat) - q = -q by grind] at hm
  have HM := Lib.hid hm
  have hB0 := Below.refl w.heap.size w
  clear hm hq
  generalize rtoa q = tq at *
  generalize rtoa (-q) = tr at *
  go_enter Tryz.func100, Tryz.ntmps100
  go_wp2_with fail
  ((with_reducible refine (HM.out _).mono ?_); rintro e w1 ⟨rfl, hb1⟩)
  have hB1 := hB0.trans (hb1.mono hB0.size); clear hb1
  go_wp2
  go_ret
  exact ⟨rfl, hB1⟩
set_option maxRecDepth 100000 in
theorem pair_c (a b : Txt) (w : World) (ha : a.length ≤ 140737488355328) (hb : b.length ≤ 140737488355328) : Calls Tryz.prog 75 #[.string ⟨a.toArray⟩, .string ⟨b.toArray⟩] w (Ret w (.int .i64 (firstR [a, b]))) := by
  have HA := Lib.hid (fun W => rqCheck_c a W ha)
  have HB := Lib.hid (fun W => rqCheck_c b W hb)
  have hB0 := Below.refl w.heap.size w
  have e : firstR [a, b] = if rchk a = 0 then rchk b else rchk a := by
    unfold firstR; unfold firstR; unfold firstR
    by_cases h : rchk b = 0
    · rw [if_pos h, h]
    · rw [if_neg h]
  rw [e]
  clear e ha hb
  by_cases h : rchk a = 0
  · rw [if_pos h]
    rw [h] at HA
    clear h
    generalize rchk b = x at *
    go_enter Tryz.func75, Tryz.ntmps75
    go_wp2_with fail
    ((with_reducible refine (HA.out _).mono ?_); rintro e w1 ⟨rfl, hb1⟩)
    have hB1 := hB0.trans (hb1.mono hB0.size); clear hb1
    go_wp2_with fail
    ((with_reducible refine (HB.out _).mono ?_); rintro e w2 ⟨rfl, hb2⟩)
    have hB2 := hB1.trans (hb2.mono hB1.size); clear hb2
    go_wp2
    go_ret
    exact ⟨rfl, hB2⟩
  · rw [if_neg h]
    have h2 := bne_ne h
    generalize rchk a = x at *
    clear h
    go_enter Tryz.func75, Tryz.ntmps75
    go_wp2_with fail
    ((with_reducible refine (HA.out _).mono ?_); rintro e w1 ⟨rfl, hb1⟩)
    have hB1 := hB0.trans (hb1.mono hB0.size); clear hb1
    go_wp2
    go_ret
    exact ⟨rfl, hB1⟩
end Go.Proofs.Wk
