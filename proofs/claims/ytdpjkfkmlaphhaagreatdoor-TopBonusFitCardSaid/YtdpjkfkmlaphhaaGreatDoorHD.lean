/- THE REFERENCE's RATIONAL NUMBERS: products over a cross, sums, differences, products, quotients, the order. -/
import Derived.Test.YtdpjkfkmlaphhaaGreatDoorHC
import Derived.Test.YtdpjkfkmlaphhaaGreatDoorHB
import Derived.Test.YtdpjkfkmlaphhaaGreatDoorGL
namespace Go.Proofs.Wk
open Go.RowKit Mt

/-- A call that makes a slice of texts. -/
def NewSl (w : World) (ls : List Txt) (e : Ending) (w' : World) : Prop := ∃ b, e = .returned (.slice (some ⟨b, 0, none⟩) ls.length ls.length) ∧ RS w' b 0 ls ∧ b < w'.heap.size ∧ Below w.heap.size w w'
theorem RS.lit (w : World) (ls : List Txt) (t : TypeId) : RS (w.alloc (.cells (ls.map txt).toArray t)) w.heap.size 0 ls := by
  intro j hj
  rw [Nat.zero_add, cell_of_row _ _ j _ _ _ (heap_alloc_new w _)]
  simp [hj]
theorem allB_drop {ns : List Int} {i : Nat} (h : i < ns.length) : allB (ns.drop i) = (decide (ns[i].natAbs < big) && allB (ns.drop (i + 1))) := by
  rw [List.drop_eq_getElem_cons h]; rfl
/-- The parts of the text of a number. -/
theorem Split_i (q : Rat) (w : World) {k : Nat} (h : lng q.num ≤ k ∧ lng (q.den : Int) ≤ k) (hk : k ≤ 100000) : Calls Tryz.prog 123 #[.string ⟨(rtoa q).toArray⟩] w (Ret w (.tuple #[.string ⟨(Lib.itoa q.num).toArray⟩, .string ⟨(Lib.itoa (q.den : Int)).toArray⟩])) := by
  have := Split_c (rtoa q) w (by
    unfold rtoa
    have h1 := lng_itoa q.num; have h2 := lng_itoa (q.den : Int)
    split
    · omega
    · rw [List.length_append, List.length_cons]; omega)
  rwa [rnum_rtoa, rden_rtoa] at this
def crossL (p q : Rat) : List Int := [p.num * q.den, q.num * p.den, p.den * q.den, p.num * q.num, p.den * q.num]
set_option maxRecDepth 100000 in
theorem crossed_c (p q : Rat) (w : World) (hp : szQ p 1900) (hq : szQ q 1900) : Calls Tryz.prog 73 #[.string ⟨(rtoa p).toArray⟩, .string ⟨(rtoa q).toArray⟩] w (NewSl w ((crossL p q).map Lib.itoa)) := by
  have hB0 := Below.refl w.heap.size w
  have HP := Lib.hid (fun W => Split_i p W hp (by omega))
  have HQ := Lib.hid (fun W => Split_i q W hq (by omega))
  have H1 := Lib.hid (fun W => Times_c p.num q.den W (by have := hp.1; omega) (by have := hq.2; omega))
  have H2 := Lib.hid (fun W => Times_c q.num p.den W (by have := hq.1; omega) (by have := hp.2; omega))
  have H3 := Lib.hid (fun W => Times_c p.den q.den W (by have := hp.2; omega) (by have := hq.2; omega))
  have H4 := Lib.hid (fun W => Times_c p.num q.num W (by have := hp.1; omega) (by have := hq.1; omega))
  have H5 := Lib.hid (fun W => Times_c p.den q.num W (by have := hp.2; omega) (by have := hq.1; omega))
  show Calls _ _ _ w (NewSl w [Lib.itoa (p.num * q.den), Lib.itoa (q.num * p.den), Lib.itoa (p.den * q.den), Lib.itoa (p.num * q.num), Lib.itoa (p.den * q.num)])
  clear hp hq
  generalize Lib.itoa (p.num * q.den) = t1 at *
  generalize Lib.itoa (q.num * p.den) = t2 at *
  generalize Lib.itoa (p.den * q.den) = t3 at *
  generalize Lib.itoa (p.num * q.num) = t4 at *
  generalize Lib.itoa (p.den * q.num) = t5 at *
  generalize rtoa p = tp at *
  generalize rtoa q = tq at *
  go_enter Tryz.func73, Tryz.ntmps73
  go_wp2_with fail
  ((with_reducible refine (HP.out _).mono ?_); rintro e w1 ⟨rfl, hb1⟩)
  have hB1 := hB0.trans (hb1.mono hB0.size); clear hb1
  go_wp2_with fail
  ((with_reducible refine (HQ.out _).mono ?_); rintro e w2 ⟨rfl, hb2⟩)
  have hB2 := hB1.trans (hb2.mono hB1.size); clear hb2
  go_wp2_with fail
  ((with_reducible refine (H1.out _).mono ?_); rintro e w3 ⟨rfl, hb3⟩)
  have hB3 := hB2.trans (hb3.mono hB2.size); clear hb3
  go_wp2_with fail
  ((with_reducible refine (H2.out _).mono ?_); rintro e w4 ⟨rfl, hb4⟩)
  have hB4 := hB3.trans (hb4.mono hB3.size); clear hb4
  go_wp2_with fail
  ((with_reducible refine (H3.out _).mono ?_); rintro e w5 ⟨rfl, hb5⟩)
  have hB5 := hB4.trans (hb5.mono hB4.size); clear hb5
  go_wp2_with fail
  ((with_reducible refine (H4.out _).mono ?_); rintro e w6 ⟨rfl, hb6⟩)
  have hB6 := hB5.trans (hb6.mono hB5.size); clear hb6
  go_wp2_with fail
  ((with_reducible refine (H5.out _).mono ?_); rintro e w7 ⟨rfl, hb7⟩)
  have hB7 := hB6.trans (hb7.mono hB6.size); clear hb7
  go_wp2
  go_ret
  exact ⟨_, rfl, RS.lit w7 [t1, t2, t3, t4, t5] _, alloc_lt w7 _, hB7.alloc hB7.size _⟩
end Go.Proofs.Wk
/- THE REFERENCE's RATIONAL NUMBERS: sums, differences, products, quotients, the order. -/
namespace Go.Proofs.Wk
open Go.RowKit Mt

theorem RS.five {w : World} {b : Nat} {t1 t2 t3 t4 t5 : Txt} (h : RS w b 0 [t1, t2, t3, t4, t5]) : w.cell? ⟨b, 0, none⟩ = some (.string ⟨t1.toArray⟩) ∧ w.cell? ⟨b, 1, none⟩ = some (.string ⟨t2.toArray⟩) ∧
    w.cell? ⟨b, 2, none⟩ = some (.string ⟨t3.toArray⟩) ∧ w.cell? ⟨b, 3, none⟩ = some (.string ⟨t4.toArray⟩) ∧ w.cell? ⟨b, 4, none⟩ = some (.string ⟨t5.toArray⟩) :=
  ⟨h 0 (by simp), h 1 (by simp), h 2 (by simp), h 3 (by simp), h 4 (by simp)⟩
def NewC (w : World) (t1 t2 t3 t4 t5 : Txt) (e : Ending) (w' : World) : Prop :=
  ∃ b, e = .returned (.slice (some ⟨b, 0, none⟩) 5 5) ∧ b < w'.heap.size ∧ Below w.heap.size w w' ∧ RS w' b 0 [t1, t2, t3, t4, t5]
theorem crossed_x (p q : Rat) (w : World) (hp : szQ p 1900) (hq : szQ q 1900) : Calls Tryz.prog 73 #[.string ⟨(rtoa p).toArray⟩, .string ⟨(rtoa q).toArray⟩] w
    (NewC w (Lib.itoa (p.num * q.den)) (Lib.itoa (q.num * p.den)) (Lib.itoa (p.den * q.den)) (Lib.itoa (p.num * q.num)) (Lib.itoa (p.den * q.num))) := by
  refine (crossed_c p q w hp hq).mono ?_
  rintro e w1 ⟨b, rfl, hR, hb, hB⟩
  exact ⟨b, rfl, hb, hB, hR⟩
theorem lng_mulQ {m n : Int} {k : Nat} (hm : lng m ≤ k) (hn : lng n ≤ k) : lng (m * n) ≤ 2 * k := by have := lng_mul m n hm hn; omega
theorem den2_ne (p q : Rat) : (p.den : Int) * q.den ≠ 0 := Int.mul_ne_zero (den_ne p) (den_ne q)
theorem lng_subk {m n : Int} {k : Nat} (hm : lng m ≤ k) (hn : lng n ≤ k) : lng (m - n) ≤ k + 1 := by
  rw [Int.sub_eq_add_neg]; exact lng_add m (-n) hm (by rw [lng_neg]; exact hn)
set_option maxRecDepth 100000 in
set_option maxHeartbeats 1000000 in
theorem Times_q (p q : Rat) (w : World) (hp : szQ p 1900) (hq : szQ q 1900) : Calls Tryz.prog 31 #[.string ⟨(rtoa p).toArray⟩, .string ⟨(rtoa q).toArray⟩] w (Ret w (.string ⟨(rtoa (p * q)).toArray⟩)) := by
  have HC := Lib.hid (fun W => crossed_x p q W hp hq)
  have h1 := lng_mulQ hp.1 hq.1
  have h2 := lng_mulQ hp.2 hq.2
  have hl := fun W => Lowest_c (p.num * q.num) (p.den * q.den) W (by omega) (by omega) (den2_ne p q)
  rw [mul_divInt] at hl
  have HL := Lib.hid hl
  clear h1 h2 hl hp hq
  generalize Lib.itoa (p.num * q.den) = t1 at *
  generalize Lib.itoa (q.num * p.den) = t2 at *
  generalize Lib.itoa (p.den * q.den) = t3 at *
  generalize Lib.itoa (p.num * q.num) = t4 at *
  generalize Lib.itoa (p.den * q.num) = t5 at *
  generalize rtoa (p * q) = tr at *
  generalize rtoa p = tp at *
  generalize rtoa q = tq at *
  go_enter Tryz.func31, Tryz.ntmps31
  go_wp2_with fail
  (with_reducible refine (HC.out _).mono ?_); rintro e w1 ⟨b, rfl, hb, hB1, hR⟩
  obtain ⟨c0, c1, c2, c3, c4⟩ := hR.five
  clear hR
  go_wp2_with fail
  go_region_with (go_at_call 72; (with_reducible refine (HL.out _).mono ?_); rintro e w3 ⟨rfl, hb3⟩)
  all_goals
    go_wp2
    go_ret
    exact ⟨rfl, hB1.drew.trans (hb3.mono hB1.size)⟩
end Go.Proofs.Wk
