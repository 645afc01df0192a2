/- THE PROGRAM's RATIONAL NUMBERS: quotients of texts, the order, parts, signs, opposites, floors, quotients of integers. -/
import Derived.Test.YtmbbppiikpfkcaaGreatDoorHH
import Derived.Test.YtmbbppiikpfkcaaGreatDoorHE
import Derived.Test.YtmbbppiikpfkcaaGreatDoorHA
import Derived.LoopN
namespace Go.Proofs.Wk
open Go.RowKit Mt

end Go.Proofs.Wk
/- THE PROGRAM's RATIONAL NUMBERS: quotients of integers, sums of lists. -/
namespace Go.Proofs.Wk
open Go.RowKit Mt

set_option maxRecDepth 100000 in
set_option maxHeartbeats 1000000 in
theorem qMake_c (a b : Txt) (w : World) (hg : Good w) (ha : a.length ≤ 140737488355328) (hb : b.length ≤ 140737488355328) : Calls Tryz.prog 45 #[.string ⟨a.toArray⟩, .string ⟨b.toArray⟩] w (Ret w (ans2 (mk2 a b))) := by
  have HG := Lib.hid hg
  have HA := Lib.hid (fun W => wCheck_c a W ha)
  have HB := Lib.hid (fun W => wCheck_c b W hb)
  clear ha hb hg
  by_cases h1 : chk a = 0
  · by_cases h2 : chk b = 0
    · obtain ⟨ea, ba⟩ := ok_text h1
      obtain ⟨eb, bb⟩ := ok_text h2
      rw [h1] at HA; rw [h2] at HB
      rw [show mk2 a b = makQ (val a) (val b) by unfold mk2; rw [if_pos (both_zero.2 ⟨h1, h2⟩)]]
      have hz := itoa_is_zero (n := val b)
      rw [eb] at hz
      by_cases h0 : val b = 0
      · rw [show makQ (val a) (val b) = ([], 10) by unfold makQ; rw [if_pos h0]]
        rw [decide_eq_true h0] at hz
        clear h0 ea ba eb bb h1 h2
        go_enter Tryz.func45, Tryz.ntmps45
        go_wp2_with fail
        refine wp_loop_rounds 3 ?_
        rw [rounds_succ]
        go_wp2_with fail
        ((with_reducible refine (HA.out _).mono ?_); rintro e w1 ⟨rfl, hb1⟩)
        have hB1 : Below w.heap.size w w1 := ((Below.refl w.heap.size w).alloc (Nat.le_refl _) _).trans (hb1.mono (Nat.le_of_lt (alloc_lt w _)))
        have c1 : w1.cell? ⟨w.heap.size, 1, none⟩ = some (.string ⟨b.toArray⟩) := ((RS.lit w [a, b] 53).later hb1 (alloc_lt w _)) 1 (by simp)
        clear hb1
        go_wp2_with fail
        rw [rounds_succ]
        go_wp2_with fail
        ((with_reducible refine (HB.out _).mono ?_); rintro e w2 ⟨rfl, hb2⟩)
        have hB2 := hB1.trans (hb2.mono hB1.size)
        clear c1 hb2
        go_wp2_with fail
        rw [rounds_succ]
        go_wp2
        go_ret2
        exact ⟨rfl, hB2⟩
      · rw [show makQ (val a) (val b) = (rtoa (Rat.divInt (val a) (val b)), 0) by unfold makQ; rw [if_neg h0]]
        rw [decide_eq_false h0] at hz
        have hl := fun g w0 W S => lowL (val a) (val b) g w0 W S ba bb h0
        rw [ea, eb] at hl
        have HL := Lib.hid hl
        clear hl h0 ea ba eb bb h1 h2
        generalize rtoa (Rat.divInt (val a) (val b)) = tr at *
        go_enter Tryz.func45, Tryz.ntmps45
        go_wp2_with fail
        refine wp_loop_rounds 3 ?_
        rw [rounds_succ]
        go_wp2_with fail
        ((with_reducible refine (HA.out _).mono ?_); rintro e w1 ⟨rfl, hb1⟩)
        have hB1 : Below w.heap.size w w1 := ((Below.refl w.heap.size w).alloc (Nat.le_refl _) _).trans (hb1.mono (Nat.le_of_lt (alloc_lt w _)))
        have c1 : w1.cell? ⟨w.heap.size, 1, none⟩ = some (.string ⟨b.toArray⟩) := ((RS.lit w [a, b] 53).later hb1 (alloc_lt w _)) 1 (by simp)
        clear hb1
        go_wp2_with fail
        rw [rounds_succ]
        go_wp2_with fail
        ((with_reducible refine (HB.out _).mono ?_); rintro e w2 ⟨rfl, hb2⟩)
        have hB2 := hB1.trans (hb2.mono hB1.size)
        clear c1 hb2
        go_wp2_with fail
        rw [rounds_succ]
        go_wp2_with fail
        have S3 := Sv.new w2 (HG.out.later hB2)
        ((with_reducible refine (HL.out _ _ _ S3).mono ?_); rintro e w4 ⟨rfl, S4⟩)
        have c0 := S4.st.c0
        rw [show ecode true = 0 from rfl] at c0
        have HBB := Lib.hid (S4.below hB2 hB2.size)
        clear S3 S4
        go_wp2
        go_ret2
        exact ⟨rfl, HBB.out⟩
    · rw [show mk2 a b = ([], chk b) by unfold mk2; rw [if_neg (fun e => h2 (both_zero.1 e).2)]; unfold both; rw [if_pos h1]]
      rw [h1] at HA
      have h3 := bne_ne h2
      generalize chk b = x at *
      clear h1 h2
      go_enter Tryz.func45, Tryz.ntmps45
      go_wp2_with fail
      refine wp_loop_rounds 3 ?_
      rw [rounds_succ]
      go_wp2_with fail
      ((with_reducible refine (HA.out _).mono ?_); rintro e w1 ⟨rfl, hb1⟩)
      have hB1 : Below w.heap.size w w1 := ((Below.refl w.heap.size w).alloc (Nat.le_refl _) _).trans (hb1.mono (Nat.le_of_lt (alloc_lt w _)))
      have c1 : w1.cell? ⟨w.heap.size, 1, none⟩ = some (.string ⟨b.toArray⟩) := ((RS.lit w [a, b] 53).later hb1 (alloc_lt w _)) 1 (by simp)
      clear hb1
      go_wp2_with fail
      rw [rounds_succ]
      go_wp2_with fail
      ((with_reducible refine (HB.out _).mono ?_); rintro e w2 ⟨rfl, hb2⟩)
      have hB2 := hB1.trans (hb2.mono hB1.size)
      clear c1 hb2
      go_wp2
      go_ret2
      exact ⟨rfl, hB2⟩
  · rw [show mk2 a b = ([], chk a) by unfold mk2; rw [if_neg (fun e => h1 (both_zero.1 e).1)]; unfold both; rw [if_neg h1]]
    have h3 := bne_ne h1
    generalize chk a = x at *
    clear h1 HB
    go_enter Tryz.func45, Tryz.ntmps45
    go_wp2_with fail
    refine wp_loop_rounds 3 ?_
    rw [rounds_succ]
    go_wp2_with fail
    ((with_reducible refine (HA.out _).mono ?_); rintro e w1 ⟨rfl, hb1⟩)
    have hB1 : Below w.heap.size w w1 := ((Below.refl w.heap.size w).alloc (Nat.le_refl _) _).trans (hb1.mono (Nat.le_of_lt (alloc_lt w _)))
    go_wp2
    go_ret2
    exact ⟨rfl, hB1⟩
set_option maxRecDepth 100000 in
theorem qOf_c (m n : Int) (w : World) (hg : Good w) (m0 : -9223372036854775808 ≤ m) (m1 : m ≤ 9223372036854775807) (n0 : -9223372036854775808 ≤ n) (n1 : n ≤ 9223372036854775807) :
    Calls Tryz.prog 26 #[.int .i64 m, .int .i64 n] w (Ret w (ans2 (makQ m n))) := by
  have HG := Lib.hid hg
  have hB0 := Below.refl w.heap.size w
  have HM := Lib.hid (fun W hW => wOf_c m W hW m0 m1)
  have HN := Lib.hid (fun W hW => wOf_c n W hW n0 n1)
  have lm := lng_i64q m0 m1; have ln := lng_i64q n0 n1
  have hk := fun W hW => qMake_c (Lib.itoa m) (Lib.itoa n) W hW (txt_ok (by omega)) (txt_ok (by omega))
  rw [mk2_itoa (lng_big2 (by omega)) (lng_big2 (by omega))] at hk
  have HK := Lib.hid hk
  clear hk lm ln m0 m1 n0 n1 hg
  generalize makQ m n = r at *
  generalize Lib.itoa m = tm at *
  generalize Lib.itoa n = tn at *
  go_enter Tryz.func26, Tryz.ntmps26
  go_wp2_with fail
  ((with_reducible refine (HM.out _ (HG.out.later hB0)).mono ?_); rintro e w1 ⟨rfl, hb1⟩)
  have hB1 := hB0.trans (hb1.mono hB0.size); clear hb1
  go_wp2_with fail
  ((with_reducible refine (HN.out _ (HG.out.later hB1)).mono ?_); rintro e w2 ⟨rfl, hb2⟩)
  have hB2 := hB1.trans (hb2.mono hB1.size); clear hb2
  go_wp2_with fail
  ((with_reducible refine (HK.out _ (HG.out.later hB2)).mono ?_); rintro e w3 ⟨rfl, hb3⟩)
  have hB3 := hB2.trans (hb3.mono hB2.size); clear hb3
  go_wp2
  go_ret2
  exact ⟨rfl, hB3⟩
end Go.Proofs.Wk
