/- THE REFERENCE's WHOLE NUMBERS: ints of texts, powers, sums of lists. -/
import Derived.Test.YtachiilmgnognaaGreatDoorGN
import Derived.Test.YtachiilmgnognaaGreatDoorGI
import Derived.Test.YtachiilmgnognaaGreatDoorGL
import Derived.LoopN
import Derived.Deep.RegionHeld3
import Derived.Deep.AppendLies
namespace Go.Proofs.Wk
open Go.RowKit Mt

theorem lng_i64' (m : Int) (h0 : -9223372036854775808 ≤ m) (h1 : m ≤ 9223372036854775807) : lng m ≤ 19 := by
  unfold lng; exact dec_int64 (by omega)
theorem nat_take_le (a : Txt) (i : Nat) : nat (a.take i) ≤ nat a := by
  conv => rhs; rw [← List.take_append_drop i a, nat_append]
  exact Nat.le_trans (Nat.le_mul_of_pos_right _ (Nat.pow_pos (by omega))) (Nat.le_add_right _ _)
theorem cmp_gt0 {m n : Int} : (0 < cmp m n) ↔ n < m := by have := cmp_spec m n; omega
theorem cmp_lt0 {m n : Int} : (cmp m n < 0) ↔ m < n := by have := cmp_spec m n; omega
theorem lng_max : lng 9223372036854775807 ≤ 10000 := Nat.le_trans (lng_i64' 9223372036854775807 (by omega) (by omega)) (by omega)
theorem lng_min : lng (-9223372036854775808) ≤ 10000 := Nat.le_trans (lng_i64' (-9223372036854775808) (by omega) (by omega)) (by omega)

set_option maxRecDepth 100000 in
set_option maxHeartbeats 2000000 in
theorem rSmall_in (m : Int) (w : World) (hm : m.natAbs < big) (hr : inR m) : Calls Tryz.prog 33 #[.string ⟨(Lib.itoa m).toArray⟩] w (Ret w (int2 (m, 0))) := by
  have HC := Lib.hid (fun W => Check_c (Lib.itoa m) W (lng_txt hm))
  rw [chk_ok hm] at HC
  have lm := lng_big hm
  have HO1 := Lib.hid (fun W => Of_c 9223372036854775807 W (by omega) (by omega))
  have HO2 := Lib.hid (fun W => Of_c (-9223372036854775808) W (by omega) (by omega))
  have o1 := fun W => Order_c m 9223372036854775807 W (by omega) lng_max
  have o2 := fun W => Order_c m (-9223372036854775808) W (by omega) lng_min
  have c1 : ¬ 0 < cmp m 9223372036854775807 := by rw [cmp_gt0]; have := hr.2; omega
  have c2 : ¬ cmp m (-9223372036854775808) < 0 := by rw [cmp_lt0]; have := hr.1; omega
  obtain ⟨x1, h1⟩ : ∃ x, cmp m 9223372036854775807 = x := ⟨_, rfl⟩
  obtain ⟨x2, h2⟩ : ∃ x, cmp m (-9223372036854775808) = x := ⟨_, rfl⟩
  rw [h1] at o1 c1
  rw [h2] at o2 c2
  have HO3 := Lib.hid o1; have HO4 := Lib.hid o2
  have HSZ := Lib.hid (fun W => size_i m W)
  have HBL := Lib.hid (fun W => Below_i m W)
  have hd := allD_dec m.natAbs
  have hn := nat_dec m.natAbs
  have hdl := dec_int64 (n := m.natAbs) (by have := hr.1; have := hr.2; omega)
  have hB0 := Below.refl w.heap.size w
  obtain ⟨sm, hs⟩ : ∃ s, decide (m < 0) = s := ⟨_, rfl⟩
  rw [hs] at HBL
  have HR := Lib.hid hr
  clear h1 h2 o1 o2 hm lm hr
  generalize h1 : Lib.itoa (9223372036854775807 : Int) = tmax at *
  generalize h2 : Lib.itoa (-9223372036854775808 : Int) = tmin at *
  generalize Lib.itoa m = l at *
  generalize Lib.decDigits m.natAbs = a at *
  have HD := Lib.hid hd; have HN := Lib.hid hn; have HSG := Lib.hid hs
  clear hd hn h1 h2 hs
  cases sm
  · go_enter Tryz.func33, Tryz.ntmps33
    go_wp2_with fail
    ((with_reducible refine (HC.out _).mono ?_); rintro e w' ⟨rfl, rfl⟩)
    go_wp2_with fail
    ((with_reducible refine (HO1.out _).mono ?_); rintro e w1 ⟨rfl, hb1⟩)
    have hB1 := hB0.trans (hb1.mono hB0.size); clear hb1
    go_wp2_with fail
    ((with_reducible refine (HO3.out _).mono ?_); rintro e w2 ⟨rfl, hb2⟩)
    have hB2 := hB1.trans (hb2.mono hB1.size); clear hb2
    go_wp2_with fail
    ((with_reducible refine (HO2.out _).mono ?_); rintro e w3 ⟨rfl, hb3⟩)
    have hB3 := hB2.trans (hb3.mono hB2.size); clear hb3
    go_wp2_with fail
    ((with_reducible refine (HO4.out _).mono ?_); rintro e w4 ⟨rfl, hb4⟩)
    have hB4 := hB3.trans (hb4.mono hB3.size); clear hb4
    go_wp2_with fail
    ((with_reducible refine (HSZ.out _).mono ?_); rintro e w' ⟨rfl, rfl⟩)
    go_wp2_with fail
    go_loop [5, 7] (fun sn si => ∃ (i : Nat) (v : Nat), si = .int .i64 i ∧ i ≤ a.length ∧ sn = .int .i64 (v : Int) ∧ Hid (nat (a.take i) = v) ∧ (v : Int) ≤ 9223372036854775807) (fun _ si => a.length - (intOf si).toNat)
    case atStart => exact ⟨0, 0, rfl, Nat.zero_le _, rfl, rfl, by omega⟩
    case round =>
      obtain ⟨i, v, rfl, hi, rfl, hv, hvb⟩ := hrel
      by_cases hlt2 : i < a.length
      · have hda := (isD_iff _).1 (allD_at HD.out hlt2)
        obtain ⟨p, hp⟩ : ∃ p, a[i].toNat = p + 48 := ⟨a[i].toNat - 48, by omega⟩
        have hp9 : p ≤ 9 := by omega
        clear hda
        have hstep : nat (a.take (i + 1)) = 10 * v + p := by
          rw [nat_take hlt2, hv.out]; unfold dv; omega
        have hb : (10 : Int) * v + p ≤ 9223372036854775807 := by
          have h1 := nat_take_le a (i + 1)
          rw [hstep, HN.out] at h1
          have := HR.out.2
          have := of_decide_eq_false HSG.out
          omega
        have HS := Lib.hid hstep; clear hstep
        go_wp2_with fail
        ((with_reducible refine (HBL.out _).mono ?_); rintro e w' ⟨rfl, rfl⟩)
        go_wp2
        go_round
        case rel => exact ⟨i + 1, 10 * v + p, by go_num, by omega, by go_num, HS.out, by omega⟩
        case measure => simp [intOf]; omega
      · obtain rfl : i = a.length := by omega
        have hv2 : (v : Int) = m := by
          have := hv.out; rw [List.take_length, HN.out] at this
          have := of_decide_eq_false HSG.out
          omega
        have HV := Lib.hid hv2; clear hv2
        go_wp2
        go_ret2
        refine ⟨?_, hB4⟩
        rw [← HV.out]; rfl
  · go_enter Tryz.func33, Tryz.ntmps33
    go_wp2_with fail
    ((with_reducible refine (HC.out _).mono ?_); rintro e w' ⟨rfl, rfl⟩)
    go_wp2_with fail
    ((with_reducible refine (HO1.out _).mono ?_); rintro e w1 ⟨rfl, hb1⟩)
    have hB1 := hB0.trans (hb1.mono hB0.size); clear hb1
    go_wp2_with fail
    ((with_reducible refine (HO3.out _).mono ?_); rintro e w2 ⟨rfl, hb2⟩)
    have hB2 := hB1.trans (hb2.mono hB1.size); clear hb2
    go_wp2_with fail
    ((with_reducible refine (HO2.out _).mono ?_); rintro e w3 ⟨rfl, hb3⟩)
    have hB3 := hB2.trans (hb3.mono hB2.size); clear hb3
    go_wp2_with fail
    ((with_reducible refine (HO4.out _).mono ?_); rintro e w4 ⟨rfl, hb4⟩)
    have hB4 := hB3.trans (hb4.mono hB3.size); clear hb4
    go_wp2_with fail
    ((with_reducible refine (HSZ.out _).mono ?_); rintro e w' ⟨rfl, rfl⟩)
    go_wp2_with fail
    go_loop [5, 7] (fun sn si => ∃ (i : Nat) (v : Int), si = .int .i64 i ∧ i ≤ a.length ∧ sn = .int .i64 v ∧ Hid (((nat (a.take i) : Nat) : Int) = -v) ∧ -9223372036854775808 ≤ v ∧ v ≤ 0) (fun _ si => a.length - (intOf si).toNat)
    case atStart => exact ⟨0, 0, rfl, Nat.zero_le _, rfl, rfl, by omega, by omega⟩
    case round =>
      obtain ⟨i, v, rfl, hi, rfl, hv, hvb, hvc⟩ := hrel
      by_cases hlt2 : i < a.length
      · have hda := (isD_iff _).1 (allD_at HD.out hlt2)
        obtain ⟨p, hp⟩ : ∃ p, a[i].toNat = p + 48 := ⟨a[i].toNat - 48, by omega⟩
        have hp9 : p ≤ 9 := by omega
        clear hda
        have hstep : ((nat (a.take (i + 1)) : Nat) : Int) = -(10 * v - p) := by
          have := hv.out
          rw [nat_take hlt2]; unfold dv; omega
        have hb : -9223372036854775808 ≤ (10 : Int) * v - p := by
          have h1 := nat_take_le a (i + 1)
          rw [HN.out] at h1
          have := HR.out.1
          have := of_decide_eq_true HSG.out
          omega
        have HS := Lib.hid hstep; clear hstep
        go_wp2_with fail
        ((with_reducible refine (HBL.out _).mono ?_); rintro e w' ⟨rfl, rfl⟩)
        go_wp2
        go_round
        case rel => exact ⟨i + 1, 10 * v - p, by go_num, by omega, by go_num, HS.out, hb, by omega⟩
        case measure => simp [intOf]; omega
      · obtain rfl : i = a.length := by omega
        have hv2 : v = m := by
          have := hv.out; rw [List.take_length, HN.out] at this
          have := of_decide_eq_true HSG.out
          omega
        have HV := Lib.hid hv2; clear hv2
        go_wp2
        go_ret2
        refine ⟨?_, hB4⟩
        rw [← HV.out]; rfl
end Go.Proofs.Wk
/- THE REFERENCE's WHOLE NUMBERS: ints of texts, powers, sums of lists. -/
namespace Go.Proofs.Wk
open Go.RowKit Mt

set_option maxRecDepth 100000 in
set_option maxHeartbeats 2000000 in
theorem rSmall_c (a : Txt) (w : World) (ha : a.length ≤ 140737488355328) : Calls Tryz.prog 33 #[.string ⟨a.toArray⟩] w (Ret w (int2 (un2 small2 a))) := by
  revert ha
  refine un_cases (P := fun a => a.length ≤ 140737488355328 → Calls Tryz.prog 33 #[.string ⟨a.toArray⟩] w (Ret w (int2 (un2 small2 a)))) a ?_ ?_
  · intro h ha
    have HC := Lib.hid (fun W => Check_c a W ha)
    rw [show un2 small2 a = (0, chk a) by unfold un2; rw [if_neg h]]
    generalize chk a = x at *
    have h2 := bne_ne h
    go_enter Tryz.func33, Tryz.ntmps33
    go_wp2_with fail
    ((with_reducible refine (HC.out _).mono ?_); rintro e w' ⟨rfl, rfl⟩)
    go_wp2
    go_ret2
    exact ⟨rfl, Below.refl _ _⟩
  · intro m hm ha
    rw [un2_itoa _ hm]
    by_cases hr : inR m
    · rw [show small2 m = (m, 0) by unfold small2; rw [if_pos hr]]
      exact rSmall_in m w hm hr
    · rw [show small2 m = (0, 2) by unfold small2; rw [if_neg hr]]
      have HC := Lib.hid (fun W => Check_c (Lib.itoa m) W (lng_txt hm))
      rw [chk_ok hm] at HC
      have lm := lng_big hm
      have HO1 := Lib.hid (fun W => Of_c 9223372036854775807 W (by omega) (by omega))
      have HO2 := Lib.hid (fun W => Of_c (-9223372036854775808) W (by omega) (by omega))
      have o1 := fun W => Order_c m 9223372036854775807 W (by omega) lng_max
      have o2 := fun W => Order_c m (-9223372036854775808) W (by omega) lng_min
      have hB0 := Below.refl w.heap.size w
      have c1 : 0 < cmp m 9223372036854775807 ∨ (¬ 0 < cmp m 9223372036854775807 ∧ cmp m (-9223372036854775808) < 0) := by
        rw [cmp_gt0, cmp_lt0]; unfold inR at hr; omega
      obtain ⟨x1, h1⟩ : ∃ x, cmp m 9223372036854775807 = x := ⟨_, rfl⟩
      obtain ⟨x2, h2⟩ : ∃ x, cmp m (-9223372036854775808) = x := ⟨_, rfl⟩
      rw [h1] at o1 c1
      rw [h2] at o2 c1
      have HO3 := Lib.hid o1; have HO4 := Lib.hid o2
      clear h1 h2 o1 o2 hm lm hr ha
      generalize Lib.itoa (9223372036854775807 : Int) = tmax at *
      generalize Lib.itoa (-9223372036854775808 : Int) = tmin at *
      generalize Lib.itoa m = l at *
      rcases c1 with c1 | ⟨c1, c2⟩
      · go_enter Tryz.func33, Tryz.ntmps33
        go_wp2_with fail
        ((with_reducible refine (HC.out _).mono ?_); rintro e w' ⟨rfl, rfl⟩)
        go_wp2_with fail
        ((with_reducible refine (HO1.out _).mono ?_); rintro e w1 ⟨rfl, hb1⟩)
        have hB1 := hB0.trans (hb1.mono hB0.size); clear hb1
        go_wp2_with fail
        ((with_reducible refine (HO3.out _).mono ?_); rintro e w2 ⟨rfl, hb2⟩)
        have hB2 := hB1.trans (hb2.mono hB1.size); clear hb2
        go_wp2
        go_ret2
        exact ⟨rfl, hB2⟩
      · go_enter Tryz.func33, Tryz.ntmps33
        go_wp2_with fail
        ((with_reducible refine (HC.out _).mono ?_); rintro e w' ⟨rfl, rfl⟩)
        go_wp2_with fail
        ((with_reducible refine (HO1.out _).mono ?_); rintro e w1 ⟨rfl, hb1⟩)
        have hB1 := hB0.trans (hb1.mono hB0.size); clear hb1
        go_wp2_with fail
        ((with_reducible refine (HO3.out _).mono ?_); rintro e w2 ⟨rfl, hb2⟩)
        have hB2 := hB1.trans (hb2.mono hB1.size); clear hb2
        go_wp2_with fail
        ((with_reducible refine (HO2.out _).mono ?_); rintro e w3 ⟨rfl, hb3⟩)
        have hB3 := hB2.trans (hb3.mono hB2.size); clear hb3
        go_wp2_with fail
        ((with_reducible refine (HO4.out _).mono ?_); rintro e w4 ⟨rfl, hb4⟩)
        have hB4 := hB3.trans (hb4.mono hB3.size); clear hb4
        go_wp2
        go_ret2
        exact ⟨rfl, hB4⟩

end Go.Proofs.Wk
/- THE REFERENCE's WHOLE NUMBERS: sums of lists. -/
namespace Go.Proofs.Wk
open Go.RowKit Mt


theorem kept_zero' : kept 0 = ([48], 0) := by rw [kept_small (by omega) (by omega), itoa_zero]
end Go.Proofs.Wk
/- THE REFERENCE's WHOLE NUMBERS: binomials by the triangle of Pascal. -/
namespace Go.Proofs.Wk
open Go.RowKit Mt

theorem OwT.parts {e : TypeId} {w : World} {base : Nat} {v : Value} {ls : List Txt} (h : OwT e w base v ls) (h0 : 0 < ls.length) :
    ∃ g cap, v = .slice (some ⟨g, 0, none⟩) ls.length cap ∧ base ≤ g ∧ g < w.heap.size ∧ RS w g 0 ls := by
  have h' := h
  obtain ⟨h1, h2⟩ := h
  rcases h2 with ⟨rfl, h2⟩ | ⟨g, cap, cur, rfl, e2, e3, e4, e5, e6, e7⟩
  · omega
  · refine ⟨g, cap, rfl, e2, (Array.getElem?_eq_some_iff.1 e3).1, fun j hj => ?_⟩
    rw [Nat.zero_add, cell_of_row w g j _ _ _ e3]
    have : (cur.toList.take (ls.length * 1))[j]? = (ls.map txt)[j]? := by rw [e7]
    rw [List.getElem?_take, if_pos (by omega)] at this
    simpa [hj] using this

/-- The first k texts of row m of the triangle. -/
def crow (m k : Nat) : List Txt := (List.range k).map fun j => Lib.itoa (cho m j)
theorem crow_len (m k : Nat) : (crow m k).length = k := by simp [crow]
theorem crow_succ (m k : Nat) : crow m (k + 1) = crow m k ++ [Lib.itoa (cho m k)] := by unfold crow; rw [List.range_succ, List.map_append]; rfl
theorem crow_at (m k j : Nat) (h : j < (crow m k).length) : (crow m k)[j] = Lib.itoa (cho m j) := by simp [crow]
theorem crow_one (m : Nat) : crow m 1 = [[49]] := by
  unfold crow
  rw [show List.range 1 = [0] from rfl]
  simp [cho_zero]
  exact itoa_one
theorem lng_cho {m k : Nat} (h : m ≤ 4096) : lng (cho m k : Int) ≤ 4097 := by
  refine Nat.le_trans (lng_mono (n := (2 : Int) ^ m) ?_) ?_
  · rw [Int.natAbs_pow]
    exact cho_le_pow m k
  · have := lng_pow (a := 2) (k := 1) ((lng_le 2 (by omega)).2 (by decide)) m
    omega
end Go.Proofs.Wk
/- THE REFERENCE's WHOLE NUMBERS: binomials. -/
namespace Go.Proofs.Wk
open Go.RowKit Mt

end Go.Proofs.Wk
