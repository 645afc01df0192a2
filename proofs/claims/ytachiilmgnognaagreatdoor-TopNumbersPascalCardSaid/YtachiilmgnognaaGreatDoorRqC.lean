/- THE REFERENCE's RATIONAL NUMBERS: products over a cross, sums, differences, products, quotients, the order. -/
import Derived.Test.YtachiilmgnognaaGreatDoorRqB
import Derived.Test.YtachiilmgnognaaGreatDoorRatE
import Derived.Test.YtachiilmgnognaaGreatDoorGL
namespace Go.Proofs.Wk
open Go.RowKit Mt

/-- A call that makes a slice of texts. -/
def NewSl (w : World) (ls : List Txt) (e : Ending) (w' : World) : Prop := ∃ b, e = .returned (.slice (some ⟨b, 0, none⟩) ls.length ls.length) ∧ RS w' b 0 ls ∧ b < w'.heap.size ∧ Below w.heap.size w w'
theorem RS.lit (w : World) (ls : List Txt) (t : TypeId) : RS (w.alloc (.cells (ls.map txt).toArray t)) w.heap.size 0 ls := by
  intro j hj
  rw [Nat.zero_add, cell_of_row _ _ j _ _ _ (heap_alloc_new w _)]
  simp [hj]
theorem allB_drop {ns : List Int} {i : Nat} (h : i < ns.length) : allB (ns.drop i) = (decide (ns[i].natAbs < big) && allB (ns.drop (i + 1))) := by
  rw [List.drop_eq_getElem_cons h]; rfl
set_option maxRecDepth 100000 in
set_option maxHeartbeats 1000000 in
theorem long_c (b off c : Nat) (ns : List Int) (w : World) (hR : RS w b off (ns.map Lib.itoa)) (hn : ns.length ≤ 5) (hlen : ∀ n ∈ ns, lng n ≤ 100000) :
    Calls Tryz.prog 77 #[.slice (some ⟨b, off, none⟩) ns.length c] w (Pur w (.bool (!allB ns))) := by
  have HR := Lib.hid hR; have HL := Lib.hid hlen
  obtain ⟨n, hnn⟩ : ∃ n, ns.length = n := ⟨_, rfl⟩
  rw [hnn] at hn ⊢
  have HN := Lib.hid hnn
  clear hnn hR hlen
  go_enter Tryz.func77, Tryz.ntmps77
  go_wp2_with fail
  go_loop [3] (fun si => ∃ i : Nat, si = .int .i64 (i : Int) ∧ i ≤ n ∧ Hid (allB (ns.drop i) = allB ns)) (fun si => n - (intOf si).toNat)
  case atStart => exact ⟨0, rfl, Nat.zero_le _, rfl⟩
  case round =>
    obtain ⟨i, rfl, hi, hE⟩ := hrel
    by_cases hlt : i < n
    · have hil : i < ns.length := by rw [HN.out]; exact hlt
      have hc := HR.out i (by rw [List.length_map]; exact hil)
      rw [List.getElem_map] at hc
      have hd := allB_drop hil
      have hll := HL.out ns[i] (List.getElem_mem hil)
      obtain ⟨m, hm⟩ : ∃ m, ns[i] = m := ⟨_, rfl⟩
      rw [hm] at hc hd hll
      have htl : (Lib.itoa m).length ≤ 140737488355328 := by have := lng_itoa m; omega
      by_cases hb : m.natAbs < big
      · have HC := Lib.hid (fun W => Check_c (Lib.itoa m) W htl)
        rw [chk_itoa, if_pos hb] at HC
        have HE := Lib.hid (show allB (ns.drop (i + 1)) = allB ns by rw [← hE.out, hd, decide_eq_true hb]; rfl)
        clear hm hd hll hb htl
        generalize Lib.itoa m = tm at *
        go_wp2_with fail
        ((with_reducible refine (HC.out _).mono ?_); rintro e w' ⟨rfl, rfl⟩)
        go_wp2
        go_round
        case rel => exact ⟨i + 1, by go_num, by omega, HE⟩
        case measure => simp [intOf]; omega
      · have HC := Lib.hid (fun W => Check_c (Lib.itoa m) W htl)
        rw [chk_itoa, if_neg hb] at HC
        have HE := Lib.hid (show allB ns = false by rw [← hE.out, hd, decide_eq_false hb]; rfl)
        clear hm hd hll hb htl
        generalize Lib.itoa m = tm at *
        go_wp2_with fail
        ((with_reducible refine (HC.out _).mono ?_); rintro e w' ⟨rfl, rfl⟩)
        go_wp2
        go_ret
        rw [HE.out]
        exact ⟨rfl, rfl⟩
    · obtain rfl : i = n := by omega
      have HE := Lib.hid (show allB ns = true by rw [← hE.out, ← HN.out, List.drop_length]; rfl)
      go_wp2
      go_ret
      rw [HE.out]
      exact ⟨rfl, rfl⟩
/-- The parts of the text of a number. -/
theorem Split_i (q : Rat) (w : World) {k : Nat} (h : lng q.num ≤ k ∧ lng (q.den : Int) ≤ k) (hk : k ≤ 100000) : Calls Tryz.prog 62 #[.string ⟨(rtoa q).toArray⟩] w (Ret w (.tuple #[.string ⟨(Lib.itoa q.num).toArray⟩, .string ⟨(Lib.itoa (q.den : Int)).toArray⟩])) := by
  have := Split_c (rtoa q) w (by
    unfold rtoa
    have h1 := lng_itoa q.num; have h2 := lng_itoa (q.den : Int)
    split
    · omega
    · rw [List.length_append, List.length_cons]; omega)
  rwa [rnum_rtoa, rden_rtoa] at this
def crossL (p q : Rat) : List Int := [p.num * q.den, q.num * p.den, p.den * q.den, p.num * q.num, p.den * q.num]
set_option maxRecDepth 100000 in
theorem crossed_c (p q : Rat) (w : World) (hp : szQ p 1900) (hq : szQ q 1900) : Calls Tryz.prog 76 #[.string ⟨(rtoa p).toArray⟩, .string ⟨(rtoa q).toArray⟩] w (NewSl w ((crossL p q).map Lib.itoa)) := by
  have hB0 := Below.refl w.heap.size w
  have HP := Lib.hid (fun W => Split_i p W hp (by omega))
  have HQ := Lib.hid (fun W => Split_i q W hq (by omega))
  have H1 := Lib.hid (fun W => Times_c p.num q.den W (by have := hp.1; omega) (by have := hq.2; omega))
  have H2 := Lib.hid (fun W => Times_c q.num p.den W (by have := hq.1; omega) (by have := hp.2; omega))
  have H3 := Lib.hid (fun W => Times_c p.den q.den W (by have := hp.2; omega) (by have := hq.2; omega))
  have H4 := Lib.hid (fun W => Times_c p.num q.num W (by have := hp.1; omega) (by have := hq.1; omega))
  have H5 := Lib.hid (fun W => Times_c p.den q.num W (by have := hp.2; omega) (by have := hq.1; omega))
  show Calls _ _ _ w (NewSl w [Lib.itoa (p.num * q.den), Lib.itoa (q.num * p.den), Lib.itoa (p.den * q.den), Lib.itoa (p.num * q.num), Lib.itoa (p.den * q.num)])
  clear hp hq
  generalize Lib.itoa (p.num * q.den) = t1 at *
  generalize Lib.itoa (q.num * p.den) = t2 at *
  generalize Lib.itoa (p.den * q.den) = t3 at *
  generalize Lib.itoa (p.num * q.num) = t4 at *
  generalize Lib.itoa (p.den * q.num) = t5 at *
  generalize rtoa p = tp at *
  generalize rtoa q = tq at *
  go_enter Tryz.func76, Tryz.ntmps76
  go_wp2_with fail
  ((with_reducible refine (HP.out _).mono ?_); rintro e w1 ⟨rfl, hb1⟩)
  have hB1 := hB0.trans (hb1.mono hB0.size); clear hb1
  go_wp2_with fail
  ((with_reducible refine (HQ.out _).mono ?_); rintro e w2 ⟨rfl, hb2⟩)
  have hB2 := hB1.trans (hb2.mono hB1.size); clear hb2
  go_wp2_with fail
  ((with_reducible refine (H1.out _).mono ?_); rintro e w3 ⟨rfl, hb3⟩)
  have hB3 := hB2.trans (hb3.mono hB2.size); clear hb3
  go_wp2_with fail
  ((with_reducible refine (H2.out _).mono ?_); rintro e w4 ⟨rfl, hb4⟩)
  have hB4 := hB3.trans (hb4.mono hB3.size); clear hb4
  go_wp2_with fail
  ((with_reducible refine (H3.out _).mono ?_); rintro e w5 ⟨rfl, hb5⟩)
  have hB5 := hB4.trans (hb5.mono hB4.size); clear hb5
  go_wp2_with fail
  ((with_reducible refine (H4.out _).mono ?_); rintro e w6 ⟨rfl, hb6⟩)
  have hB6 := hB5.trans (hb6.mono hB5.size); clear hb6
  go_wp2_with fail
  ((with_reducible refine (H5.out _).mono ?_); rintro e w7 ⟨rfl, hb7⟩)
  have hB7 := hB6.trans (hb7.mono hB6.size); clear hb7
  go_wp2
  go_ret
  exact ⟨_, rfl, RS.lit w7 [t1, t2, t3, t4, t5] _, alloc_lt w7 _, hB7.alloc hB7.size _⟩
end Go.Proofs.Wk
