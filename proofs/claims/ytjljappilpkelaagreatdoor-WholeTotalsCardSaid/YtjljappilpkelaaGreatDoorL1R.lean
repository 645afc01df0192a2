/- THE LAWS WholeReads and WholeTotals: they return true at all texts, ints and lists. -/
import Derived.Test.YtjljappilpkelaaGreatDoorRefK
import Derived.Test.YtjljappilpkelaaGreatDoorL1M
namespace Go.Proofs.Wk
open Go.RowKit Mt

theorem cmp_zero_same (a : Txt) : bin2i (fun m n => (cmp m n, 0)) a [48] = un2 (fun n => (sgn n, 0)) a := by
  unfold bin2i un2
  have h0 : chk [48] = 0 := by decide
  have hv : val [48] = 0 := by decide
  by_cases h : chk a = 0
  · rw [if_pos (both_zero.2 ⟨h, h0⟩), if_pos h, hv]; rfl
  · rw [if_neg (fun e => h (both_zero.1 e).1), if_neg h]
    unfold both; rw [if_neg h]
theorem un2_bd (f : Int → Int × Int) (lo hi : Int) (h0 : lo ≤ 0 ∧ 0 ≤ hi) (hf : ∀ m, (lo ≤ (f m).1 ∧ (f m).1 ≤ hi) ∧ 0 ≤ (f m).2 ∧ (f m).2 ≤ 11) (a : Txt) : (lo ≤ (un2 f a).1 ∧ (un2 f a).1 ≤ hi) ∧ 0 ≤ (un2 f a).2 ∧ (un2 f a).2 ≤ 11 := by
  unfold un2; split
  · exact hf _
  · exact ⟨h0, chk_range a⟩
theorem small2_bd (m : Int) : (-9223372036854775808 ≤ (small2 m).1 ∧ (small2 m).1 ≤ 9223372036854775807) ∧ 0 ≤ (small2 m).2 ∧ (small2 m).2 ≤ 11 := by
  unfold small2
  by_cases h : inR m
  · rw [if_pos h]; unfold inR at h; simp only; omega
  · rw [if_neg h]; simp
set_option maxRecDepth 100000 in
set_option maxHeartbeats 4000000 in
theorem reads_c (a : Txt) (n : Int) (w : World) (hg : Good w) (ha : a.length ≤ 140737488355328) (hn : -9223372036854775808 ≤ n ∧ n ≤ 9223372036854775807) :
    Calls Tryz.prog 6 #[.string ⟨a.toArray⟩, .int .i64 n] w (Ret w (.bool true)) := by
  have HG := Lib.hid hg
  have hB0 := Below.refl w.heap.size w
  obtain ⟨n0, n1⟩ := hn
  have HS := Lib.hid (fun W hW => wSmall_c a W hW ha)
  have HS2 := Lib.hid (fun W => rSmall_c a W ha)
  have HI := Lib.hid (fun W => wSign_c a W ha)
  have hc2 := fun W => rCompare_c a [48] W ha (by decide)
  rw [cmp_zero_same] at hc2
  have HC2 := Lib.hid hc2
  have HK := Lib.hid (fun W => wCheck_c a W ha)
  have HK2 := Lib.hid (fun W => Check_c a W ha)
  have HO := Lib.hid (fun W hW => wOf_c n W hW n0 n1)
  have HO2 := Lib.hid (fun W => Of_c n W n0 n1)
  have bs := un2_bd small2 (-9223372036854775808) 9223372036854775807 (by omega) small2_bd a
  have bi := un2_bd (fun n => (sgn n, 0)) (-1) 1 (by omega) (fun m => by have := cmp_spec m 0; unfold sgn; simp only; omega) a
  have bk := chk_range a
  obtain ⟨⟨s, es⟩, h1⟩ : ∃ p, un2 small2 a = p := ⟨_, rfl⟩
  obtain ⟨⟨i, ei⟩, h2⟩ : ∃ p, un2 (fun n => (sgn n, 0)) a = p := ⟨_, rfl⟩
  rw [h1] at HS HS2 bs
  rw [h2] at HI HC2 bi
  obtain ⟨⟨s0, s1⟩, s2, s3⟩ := bs
  obtain ⟨⟨i0, i1⟩, i2, i3⟩ := bi
  obtain ⟨k0, k1⟩ := bk
  simp only at s0 s1 s2 s3 i0 i1 i2 i3
  generalize chk a = x at *
  generalize Lib.itoa n = tn at *
  clear h1 h2 hc2 hg ha n0 n1
  by_cases hla : 2048 < a.length
  · have hla' : (2048 : Int) < (a.length : Int) := by omega
    clear hla
    go_enter Tryz.func6, Tryz.ntmps6
    go_wp2_with fail
    ((with_reducible refine (awake_c _ (HG.out.later hB0)).mono ?_); rintro e w1 ⟨rfl, hb1⟩)
    have hB1 := hB0.trans (hb1.mono hB0.size); clear hb1
    go_wp2
    go_ret
    exact ⟨rfl, hB1⟩
  · have hla' : ¬ (2048 : Int) < (a.length : Int) := by omega
    clear hla
    go_enter Tryz.func6, Tryz.ntmps6
    go_wp2_with fail
    ((with_reducible refine (HS.out _ (HG.out.later hB0)).mono ?_); rintro e w1 ⟨rfl, hb1⟩)
    have hB1 := hB0.trans (hb1.mono hB0.size); clear hb1
    go_wp2_with fail
    ((with_reducible refine (HS2.out _).mono ?_); rintro e w2 ⟨rfl, hb2⟩)
    have hB2 := hB1.trans (hb2.mono hB1.size); clear hb2
    go_wp2_with fail
    ((with_reducible refine (HI.out _).mono ?_); rintro e w3 ⟨rfl, hb3⟩)
    have hB3 := hB2.trans (hb3.mono hB2.size); clear hb3
    go_wp2_with fail
    ((with_reducible refine (HC2.out _).mono ?_); rintro e w4 ⟨rfl, hb4⟩)
    have hB4 := hB3.trans (hb4.mono hB3.size); clear hb4
    go_wp2_with fail
    ((with_reducible refine (HK.out _).mono ?_); rintro e w5 ⟨rfl, hb5⟩)
    have hB5 := hB4.trans (hb5.mono hB4.size); clear hb5
    go_wp2_with fail
    ((with_reducible refine (HK2.out _).mono ?_); rintro e w' ⟨rfl, rfl⟩)
    go_wp2_with fail
    ((with_reducible refine (HO.out _ (HG.out.later hB5)).mono ?_); rintro e w6 ⟨rfl, hb6⟩)
    have hB6 := hB5.trans (hb6.mono hB5.size); clear hb6
    go_wp2_with fail
    ((with_reducible refine (HO2.out _).mono ?_); rintro e w7 ⟨rfl, hb7⟩)
    have hB7 := hB6.trans (hb7.mono hB6.size); clear hb7
    go_wp2_with fail
    ((with_reducible refine (awake_c _ (HG.out.later hB7)).mono ?_); rintro e w8 ⟨rfl, hb8⟩)
    have hB8 := hB7.trans (hb8.mono hB7.size); clear hb8
    go_wp2
    go_ret
    exact ⟨rfl, hB8⟩
def fewAllB (ls : List Txt) : Bool := if 30 < ls.length then decide (4096 < ls.length) && decide (ls.length < 8192) else ls.all fewB
theorem all_drop {ls : List Txt} {i : Nat} (h : i < ls.length) : (ls.drop i).all fewB = (fewB ls[i] && (ls.drop (i + 1)).all fewB) := by
  rw [List.drop_eq_getElem_cons h]; rfl
set_option maxRecDepth 100000 in
set_option maxHeartbeats 1000000 in
theorem FewAll_c {v : Value} (ls : List Txt) (w : World) (h : SlS w v ls) (hls : ls.length ≤ 140737488355328) (hlen : ∀ l ∈ ls, l.length ≤ 140737488355328) : Calls Tryz.prog 21 #[v] w (Pur w (.bool (fewAllB ls))) := by
  rcases h with ⟨a, c, rfl, rfl⟩ | ⟨b, off, c, rfl, hR, hl⟩
  · rw [show fewAllB [] = true from rfl]
    go_enter Tryz.func21, Tryz.ntmps21
    go_wp2_with fail
    refine wp_loop_rounds 1 ?_
    rw [rounds_succ]
    go_wp2
    go_ret
    exact ⟨rfl, rfl⟩
  · by_cases h1 : 30 < ls.length
    · rw [show fewAllB ls = (decide (4096 < ls.length) && decide (ls.length < 8192)) by unfold fewAllB; rw [if_pos h1]]
      obtain ⟨n, hn⟩ : ∃ n, ls.length = n := ⟨_, rfl⟩
      rw [hn] at h1 ⊢
      have h1' : (30 : Int) < (n : Int) := by omega
      clear hn hlen hR hls h1
      by_cases h2 : 4096 < n
      · have h2' : (4096 : Int) < (n : Int) := by omega
        rw [decide_eq_true h2, Bool.true_and]
        clear h2
        by_cases h3 : n < 8192
        · have h3' : (n : Int) < 8192 := by omega
          rw [decide_eq_true h3]
          clear h3
          go_enter Tryz.func21, Tryz.ntmps21
          go_wp2
          go_ret
          exact ⟨rfl, rfl⟩
        · have h3' : ¬ (n : Int) < 8192 := by omega
          rw [decide_eq_false h3]
          clear h3
          go_enter Tryz.func21, Tryz.ntmps21
          go_wp2
          go_ret
          exact ⟨rfl, rfl⟩
      · have h2' : ¬ (4096 : Int) < (n : Int) := by omega
        rw [decide_eq_false h2, Bool.false_and]
        clear h2
        go_enter Tryz.func21, Tryz.ntmps21
        go_wp2
        go_ret
        exact ⟨rfl, rfl⟩
    · rw [show fewAllB ls = ls.all fewB by unfold fewAllB; rw [if_neg h1]]
      have HR := Lib.hid hR; have HL := Lib.hid hlen
      obtain ⟨n, hn⟩ : ∃ n, ls.length = n := ⟨_, rfl⟩
      have h1' : ¬ (30 : Int) < (n : Int) := by omega
      rw [hn] at hls ⊢
      have HN := Lib.hid hn
      clear hn hR hlen h1
      go_enter Tryz.func21, Tryz.ntmps21
      go_wp2_with fail
      go_loop [3] (fun si => ∃ i : Nat, si = .int .i64 (i : Int) ∧ i ≤ n ∧ Hid ((ls.drop i).all fewB = ls.all fewB)) (fun si => n - (intOf si).toNat)
      case atStart => exact ⟨0, rfl, Nat.zero_le _, rfl⟩
      case round =>
        obtain ⟨i, rfl, hi, hE⟩ := hrel
        by_cases hlt : i < n
        · have hil : i < ls.length := by rw [HN.out]; exact hlt
          have hc := HR.out i hil
          have hd := all_drop hil
          have hll := HL.out ls[i] (List.getElem_mem hil)
          obtain ⟨l, hle⟩ : ∃ l, ls[i] = l := ⟨_, rfl⟩
          rw [hle] at hc hd hll
          have HF := Lib.hid (fun W => Few_c l W hll)
          generalize fewB l = f at *
          cases f
          · have HE := Lib.hid (show ls.all fewB = false by rw [← hE.out, hd]; rfl)
            clear hle hd hll
            go_wp2_with fail
            ((with_reducible refine (HF.out _).mono ?_); rintro e w' ⟨rfl, rfl⟩)
            go_wp2
            go_ret
            rw [HE.out]
            exact ⟨rfl, rfl⟩
          · have HE := Lib.hid (show (ls.drop (i + 1)).all fewB = ls.all fewB by rw [← hE.out, hd]; rfl)
            clear hle hd hll
            go_wp2_with fail
            ((with_reducible refine (HF.out _).mono ?_); rintro e w' ⟨rfl, rfl⟩)
            go_wp2
            go_round
            case rel => exact ⟨i + 1, by go_num, by omega, HE⟩
            case measure => simp [intOf]; omega
        · obtain rfl : i = n := by omega
          have HE := Lib.hid (show ls.all fewB = true by rw [← hE.out, ← HN.out, List.drop_length]; rfl)
          go_wp2
          go_ret
          rw [HE.out]
          exact ⟨rfl, rfl⟩
theorem tot2_bd (ls : List Txt) : 0 ≤ (tot2 ls).2 ∧ (tot2 ls).2 ≤ 11 := by
  unfold tot2; split
  · simp
  · split
    · exact kept_bd _
    · have : ∀ ls : List Txt, 0 ≤ firstErr ls ∧ firstErr ls ≤ 11 := by
        intro ls
        induction ls with
        | nil => decide
        | cons a t ih => unfold firstErr; split; exact ih; exact chk_range a
      exact this ls
set_option maxRecDepth 100000 in
set_option maxHeartbeats 4000000 in
theorem totals_c {v : Value} (ls : List Txt) (w : World) (hg : Good w) (h : SlS w v ls) (hls : ls.length ≤ 140737488355328) (hlen : ∀ l ∈ ls, l.length ≤ 140737488355328) :
    Calls Tryz.prog 5 #[v] w (Ret w (.bool true)) := by
  have HG := Lib.hid hg; have HV := Lib.hid h
  have hB0 := Below.refl w.heap.size w
  have HF := Lib.hid (FewAll_c ls w h hls hlen)
  have HT := Lib.hid (fun W hW hv => wTotal_c (v := v) ls W hW hv hls hlen)
  have HT2 := Lib.hid (fun W hv => rTotal_c (v := v) ls W hv hls hlen)
  have bt := tot2_bd ls
  obtain ⟨⟨t, et⟩, h1⟩ : ∃ p, tot2 ls = p := ⟨_, rfl⟩
  rw [h1] at HT HT2 bt
  obtain ⟨t0, t1⟩ := bt
  simp only at t0 t1
  generalize fewAllB ls = f at *
  clear h1 hg h hls hlen
  cases f
  · go_enter Tryz.func5, Tryz.ntmps5
    go_wp2_with fail
    ((with_reducible refine (HF.out).mono ?_); rintro e w' ⟨rfl, rfl⟩)
    go_wp2_with fail
    ((with_reducible refine (awake_c _ (HG.out.later hB0)).mono ?_); rintro e w1 ⟨rfl, hb1⟩)
    have hB1 := hB0.trans (hb1.mono hB0.size); clear hb1
    go_wp2
    go_ret
    exact ⟨rfl, hB1⟩
  · go_enter Tryz.func5, Tryz.ntmps5
    go_wp2_with fail
    ((with_reducible refine (HF.out).mono ?_); rintro e w' ⟨rfl, rfl⟩)
    go_wp2_with fail
    ((with_reducible refine (HT.out _ (HG.out.later hB0) HV.out).mono ?_); rintro e w1 ⟨rfl, hb1⟩)
    have hB1 := hB0.trans (hb1.mono hB0.size); clear hb1
    go_wp2_with fail
    ((with_reducible refine (HT2.out _ (HV.out.later hB1)).mono ?_); rintro e w2 ⟨rfl, hb2⟩)
    have hB2 := hB1.trans (hb2.mono hB1.size); clear hb2
    go_wp2_with fail
    ((with_reducible refine (awake_c _ (HG.out.later hB2)).mono ?_); rintro e w3 ⟨rfl, hb3⟩)
    have hB3 := hB2.trans (hb3.mono hB2.size); clear hb3
    go_wp2
    go_ret
    exact ⟨rfl, hB3⟩
end Go.Proofs.Wk
