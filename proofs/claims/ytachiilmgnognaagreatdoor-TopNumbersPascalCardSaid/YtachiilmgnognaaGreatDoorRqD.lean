/- THE REFERENCE's RATIONAL NUMBERS: sums, differences, products, quotients, the order. -/
import Derived.Test.YtachiilmgnognaaGreatDoorRqC
import Derived.Test.YtachiilmgnognaaGreatDoorRatC
namespace Go.Proofs.Wk
open Go.RowKit Mt

theorem RS.five {w : World} {b : Nat} {t1 t2 t3 t4 t5 : Txt} (h : RS w b 0 [t1, t2, t3, t4, t5]) : w.cell? ⟨b, 0, none⟩ = some (.string ⟨t1.toArray⟩) ∧ w.cell? ⟨b, 1, none⟩ = some (.string ⟨t2.toArray⟩) ∧
    w.cell? ⟨b, 2, none⟩ = some (.string ⟨t3.toArray⟩) ∧ w.cell? ⟨b, 3, none⟩ = some (.string ⟨t4.toArray⟩) ∧ w.cell? ⟨b, 4, none⟩ = some (.string ⟨t5.toArray⟩) :=
  ⟨h 0 (by simp), h 1 (by simp), h 2 (by simp), h 3 (by simp), h 4 (by simp)⟩
def NewC (w : World) (t1 t2 t3 t4 t5 : Txt) (e : Ending) (w' : World) : Prop :=
  ∃ b, e = .returned (.slice (some ⟨b, 0, none⟩) 5 5) ∧ b < w'.heap.size ∧ Below w.heap.size w w' ∧ RS w' b 0 [t1, t2, t3, t4, t5]
theorem crossed_x (p q : Rat) (w : World) (hp : szQ p 1900) (hq : szQ q 1900) : Calls Tryz.prog 76 #[.string ⟨(rtoa p).toArray⟩, .string ⟨(rtoa q).toArray⟩] w
    (NewC w (Lib.itoa (p.num * q.den)) (Lib.itoa (q.num * p.den)) (Lib.itoa (p.den * q.den)) (Lib.itoa (p.num * q.num)) (Lib.itoa (p.den * q.num))) := by
  refine (crossed_c p q w hp hq).mono ?_
  rintro e w1 ⟨b, rfl, hR, hb, hB⟩
  exact ⟨b, rfl, hb, hB, hR⟩
theorem lng_mulQ {m n : Int} {k : Nat} (hm : lng m ≤ k) (hn : lng n ≤ k) : lng (m * n) ≤ 2 * k := by have := lng_mul m n hm hn; omega
theorem den2_ne (p q : Rat) : (p.den : Int) * q.den ≠ 0 := Int.mul_ne_zero (den_ne p) (den_ne q)
theorem lng_subk {m n : Int} {k : Nat} (hm : lng m ≤ k) (hn : lng n ≤ k) : lng (m - n) ≤ k + 1 := by
  rw [Int.sub_eq_add_neg]; exact lng_add m (-n) hm (by rw [lng_neg]; exact hn)
set_option maxRecDepth 100000 in
set_option maxHeartbeats 1000000 in
theorem Plus_q (p q : Rat) (w : World) (hp : szQ p 1900) (hq : szQ q 1900) : Calls Tryz.prog 79 #[.string ⟨(rtoa p).toArray⟩, .string ⟨(rtoa q).toArray⟩] w (Ret w (.string ⟨(rtoa (p + q)).toArray⟩)) := by
  have HC := Lib.hid (fun W => crossed_x p q W hp hq)
  have h1 := lng_mulQ hp.1 hq.2; have h2 := lng_mulQ hq.1 hp.2; have h3 := lng_mulQ hp.2 hq.2
  have HP := Lib.hid (fun W => Plus_c (p.num * q.den) (q.num * p.den) W (by omega) (by omega))
  have hl := fun W => Lowest_c (p.num * q.den + q.num * p.den) (p.den * q.den) W (by have := lng_add _ _ h1 h2; omega) (by omega) (den2_ne p q)
  rw [add_divInt] at hl
  have HL := Lib.hid hl
  clear h1 h2 h3 hl hp hq
  generalize Lib.itoa (p.num * q.den + q.num * p.den) = t6 at *
  generalize Lib.itoa (p.num * q.den) = t1 at *
  generalize Lib.itoa (q.num * p.den) = t2 at *
  generalize Lib.itoa (p.den * q.den) = t3 at *
  generalize Lib.itoa (p.num * q.num) = t4 at *
  generalize Lib.itoa (p.den * q.num) = t5 at *
  generalize rtoa (p + q) = tr at *
  generalize rtoa p = tp at *
  generalize rtoa q = tq at *
  go_enter Tryz.func79, Tryz.ntmps79
  go_wp2_with fail
  (with_reducible refine (HC.out _).mono ?_); rintro e w1 ⟨b, rfl, hb, hB1, hR⟩
  obtain ⟨c0, c1, c2, -, -⟩ := hR.five
  clear hR
  go_wp2_with fail
  go_region_with (first | (go_at_call 78; (with_reducible refine (HP.out _).mono ?_); rintro e w2 ⟨rfl, hb2⟩; have k2 := hb2.cell (p := ⟨b, 2, none⟩) hb) | (go_at_call 92; (with_reducible refine (HL.out _).mono ?_); rintro e w3 ⟨rfl, hb3⟩))
  all_goals
    go_wp2
    go_ret
    exact ⟨rfl, (hB1.drew.trans (hb2.mono hB1.size)).trans (hb3.mono (Nat.le_trans hB1.size hb2.size))⟩
set_option maxRecDepth 100000 in
set_option maxHeartbeats 1000000 in
theorem Minus_q (p q : Rat) (w : World) (hp : szQ p 1900) (hq : szQ q 1900) : Calls Tryz.prog 82 #[.string ⟨(rtoa p).toArray⟩, .string ⟨(rtoa q).toArray⟩] w (Ret w (.string ⟨(rtoa (p - q)).toArray⟩)) := by
  have HC := Lib.hid (fun W => crossed_x p q W hp hq)
  have h1 := lng_mulQ hp.1 hq.2; have h2 := lng_mulQ hq.1 hp.2; have h3 := lng_mulQ hp.2 hq.2
  have HP := Lib.hid (fun W => Minus_c (p.num * q.den) (q.num * p.den) W (by omega) (by omega))
  have hl := fun W => Lowest_c (p.num * q.den - q.num * p.den) (p.den * q.den) W (by have := lng_subk h1 h2; omega) (by omega) (den2_ne p q)
  rw [sub_divInt] at hl
  have HL := Lib.hid hl
  clear h1 h2 h3 hl hp hq
  generalize Lib.itoa (p.num * q.den - q.num * p.den) = t6 at *
  generalize Lib.itoa (p.num * q.den) = t1 at *
  generalize Lib.itoa (q.num * p.den) = t2 at *
  generalize Lib.itoa (p.den * q.den) = t3 at *
  generalize Lib.itoa (p.num * q.num) = t4 at *
  generalize Lib.itoa (p.den * q.num) = t5 at *
  generalize rtoa (p - q) = tr at *
  generalize rtoa p = tp at *
  generalize rtoa q = tq at *
  go_enter Tryz.func82, Tryz.ntmps82
  go_wp2_with fail
  (with_reducible refine (HC.out _).mono ?_); rintro e w1 ⟨b, rfl, hb, hB1, hR⟩
  obtain ⟨c0, c1, c2, -, -⟩ := hR.five
  clear hR
  go_wp2_with fail
  go_region_with (first | (go_at_call 81; (with_reducible refine (HP.out _).mono ?_); rintro e w2 ⟨rfl, hb2⟩; have k2 := hb2.cell (p := ⟨b, 2, none⟩) hb) | (go_at_call 92; (with_reducible refine (HL.out _).mono ?_); rintro e w3 ⟨rfl, hb3⟩))
  all_goals
    go_wp2
    go_ret
    exact ⟨rfl, (hB1.drew.trans (hb2.mono hB1.size)).trans (hb3.mono (Nat.le_trans hB1.size hb2.size))⟩
set_option maxRecDepth 100000 in
set_option maxHeartbeats 1000000 in
theorem Times_q (p q : Rat) (w : World) (hp : szQ p 1900) (hq : szQ q 1900) : Calls Tryz.prog 84 #[.string ⟨(rtoa p).toArray⟩, .string ⟨(rtoa q).toArray⟩] w (Ret w (.string ⟨(rtoa (p * q)).toArray⟩)) := by
  have HC := Lib.hid (fun W => crossed_x p q W hp hq)
  have h1 := lng_mulQ hp.1 hq.1
  have h2 := lng_mulQ hp.2 hq.2
  have hl := fun W => Lowest_c (p.num * q.num) (p.den * q.den) W (by omega) (by omega) (den2_ne p q)
  rw [mul_divInt] at hl
  have HL := Lib.hid hl
  clear h1 h2 hl hp hq
  generalize Lib.itoa (p.num * q.den) = t1 at *
  generalize Lib.itoa (q.num * p.den) = t2 at *
  generalize Lib.itoa (p.den * q.den) = t3 at *
  generalize Lib.itoa (p.num * q.num) = t4 at *
  generalize Lib.itoa (p.den * q.num) = t5 at *
  generalize rtoa (p * q) = tr at *
  generalize rtoa p = tp at *
  generalize rtoa q = tq at *
  go_enter Tryz.func84, Tryz.ntmps84
  go_wp2_with fail
  (with_reducible refine (HC.out _).mono ?_); rintro e w1 ⟨b, rfl, hb, hB1, hR⟩
  obtain ⟨c0, c1, c2, c3, c4⟩ := hR.five
  clear hR
  go_wp2_with fail
  go_region_with (go_at_call 92; (with_reducible refine (HL.out _).mono ?_); rintro e w3 ⟨rfl, hb3⟩)
  all_goals
    go_wp2
    go_ret
    exact ⟨rfl, hB1.drew.trans (hb3.mono hB1.size)⟩
set_option maxRecDepth 100000 in
set_option maxHeartbeats 1000000 in
theorem By_q (p q : Rat) (w : World) (hp : szQ p 1900) (hq : szQ q 1900) (h0 : q ≠ 0) : Calls Tryz.prog 86 #[.string ⟨(rtoa p).toArray⟩, .string ⟨(rtoa q).toArray⟩] w (Ret w (.string ⟨(rtoa (p / q)).toArray⟩)) := by
  have HC := Lib.hid (fun W => crossed_x p q W hp hq)
  have h1 := lng_mulQ hp.1 hq.2
  have h2 := lng_mulQ hp.2 hq.1
  have hl := fun W => Lowest_c (p.num * q.den) (p.den * q.num) W (by omega) (by omega) (Int.mul_ne_zero (den_ne p) (fun e => h0 (Rat.num_eq_zero.1 e)))
  rw [div_divInt] at hl
  have HL := Lib.hid hl
  clear h1 h2 hl hp hq h0
  generalize Lib.itoa (p.num * q.den) = t1 at *
  generalize Lib.itoa (q.num * p.den) = t2 at *
  generalize Lib.itoa (p.den * q.den) = t3 at *
  generalize Lib.itoa (p.num * q.num) = t4 at *
  generalize Lib.itoa (p.den * q.num) = t5 at *
  generalize rtoa (p / q) = tr at *
  generalize rtoa p = tp at *
  generalize rtoa q = tq at *
  go_enter Tryz.func86, Tryz.ntmps86
  go_wp2_with fail
  (with_reducible refine (HC.out _).mono ?_); rintro e w1 ⟨b, rfl, hb, hB1, hR⟩
  obtain ⟨c0, c1, c2, c3, c4⟩ := hR.five
  clear hR
  go_wp2_with fail
  go_region_with (go_at_call 92; (with_reducible refine (HL.out _).mono ?_); rintro e w3 ⟨rfl, hb3⟩)
  all_goals
    go_wp2
    go_ret
    exact ⟨rfl, hB1.drew.trans (hb3.mono hB1.size)⟩
set_option maxRecDepth 100000 in
set_option maxHeartbeats 1000000 in
theorem Order_q (p q : Rat) (w : World) (hp : szQ p 1900) (hq : szQ q 1900) : Calls Tryz.prog 88 #[.string ⟨(rtoa p).toArray⟩, .string ⟨(rtoa q).toArray⟩] w (Ret w (.int .i64 (cmpQ p q))) := by
  have HC := Lib.hid (fun W => crossed_x p q W hp hq)
  have h1 := lng_mulQ hp.1 hq.2
  have h2 := lng_mulQ hq.1 hp.2
  have HL := Lib.hid (fun W => show Calls _ _ _ W (Ret W (.int .i64 (cmpQ p q))) from Order_c (p.num * q.den) (q.num * p.den) W (by omega) (by omega))
  clear h1 h2 hp hq
  generalize Lib.itoa (p.num * q.den) = t1 at *
  generalize Lib.itoa (q.num * p.den) = t2 at *
  generalize Lib.itoa (p.den * q.den) = t3 at *
  generalize Lib.itoa (p.num * q.num) = t4 at *
  generalize Lib.itoa (p.den * q.num) = t5 at *
  generalize cmpQ p q = cc at *
  generalize rtoa p = tp at *
  generalize rtoa q = tq at *
  go_enter Tryz.func88, Tryz.ntmps88
  go_wp2_with fail
  (with_reducible refine (HC.out _).mono ?_); rintro e w1 ⟨b, rfl, hb, hB1, hR⟩
  obtain ⟨c0, c1, c2, c3, c4⟩ := hR.five
  clear hR
  go_wp2_with fail
  go_region_with (go_at_call 93; (with_reducible refine (HL.out _).mono ?_); rintro e w3 ⟨rfl, hb3⟩)
  all_goals
    go_wp2
    go_ret
    exact ⟨rfl, hB1.drew.trans (hb3.mono hB1.size)⟩
end Go.Proofs.Wk
