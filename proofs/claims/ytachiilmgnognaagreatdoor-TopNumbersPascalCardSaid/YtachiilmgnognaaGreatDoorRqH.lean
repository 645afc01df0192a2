/- THE REFERENCE's RATIONAL NUMBERS: signs of sums with square roots, sums of lists. -/
import Derived.Test.YtachiilmgnognaaGreatDoorRqG
import Derived.Test.YtachiilmgnognaaGreatDoorRatE
import Derived.LoopN
namespace Go.Proofs.Wk
open Go.RowKit Mt

theorem sgnQ_bd (p : Rat) : -1 ≤ sgnQ p ∧ sgnQ p ≤ 1 := by rcases sgnQ_spec p with ⟨-, h⟩ | ⟨-, h⟩ | ⟨-, h⟩ <;> rw [h] <;> omega
theorem cmpQ_bd (p q : Rat) : -1 ≤ cmpQ p q ∧ cmpQ p q ≤ 1 := by rw [cmpQ_sub]; exact sgnQ_bd _
theorem mul_bd1 {a b : Int} (ha : -1 ≤ a ∧ a ≤ 1) (hb : -1 ≤ b ∧ b ≤ 1) : -1 ≤ a * b ∧ a * b ≤ 1 := by
  have h1 : a = -1 ∨ a = 0 ∨ a = 1 := by omega
  rcases h1 with rfl | rfl | rfl <;> omega
theorem rootQ_bd (a b c : Rat) : -1 ≤ rootQ a b c ∧ rootQ a b c ≤ 1 := by
  unfold rootQ
  split
  · split
    · exact mul_bd1 (sgnQ_bd b) (sgnQ_bd c)
    · exact sgnQ_bd a
  · exact mul_bd1 (sgnQ_bd a) (cmpQ_bd _ _)
theorem rootsQ_bd (a b c d e : Rat) : -1 ≤ rootsQ a b c d e ∧ rootsQ a b c d e ≤ 1 := by
  unfold rootsQ
  split
  · split
    · exact mul_bd1 (sgnQ_bd d) (sgnQ_bd e)
    · exact rootQ_bd a b c
  · exact mul_bd1 (rootQ_bd a b c) (rootQ_bd _ _ _)
theorem beq_no {x : Int} (h : x ≠ 0) : (x == 0) = false := by rw [beq_eq_false_iff_ne]; exact h
set_option maxRecDepth 100000 in
set_option maxHeartbeats 1000000 in
theorem Root_q (a b c : Rat) (w : World) (ha : szQ a 600) (hb : szQ b 600) (hc : szQ c 600) : Calls Tryz.prog 64 #[.string ⟨(rtoa a).toArray⟩, .string ⟨(rtoa b).toArray⟩, .string ⟨(rtoa c).toArray⟩] w (Ret w (.int .i64 (rootQ a b c))) := by
  have hB0 := Below.refl w.heap.size w
  have S1 := Lib.hid (fun W => Signum_q a W (ha.mono (by omega)))
  have S2 := Lib.hid (fun W => Signum_q b W (hb.mono (by omega)))
  have S3 := Lib.hid (fun W => Signum_q c W (hc.mono (by omega)))
  have T1 := Lib.hid (fun W => Times_q a a W (ha.mono (by omega)) (ha.mono (by omega)))
  have T2 := Lib.hid (fun W => Times_q b b W (hb.mono (by omega)) (hb.mono (by omega)))
  have T3 := Lib.hid (fun W => Times_q (b * b) c W ((szQ_mul hb hb).mono (by omega)) (hc.mono (by omega)))
  have O := Lib.hid (fun W => Order_q (a * a) (b * b * c) W ((szQ_mul ha ha).mono (by omega)) ((szQ_mul (szQ_mul hb hb) hc).mono (by omega)))
  unfold rootQ
  have b1 := sgnQ_bd a; have b2 := mul_bd1 (sgnQ_bd b) (sgnQ_bd c); have b3 := mul_bd1 b1 b2; have b4 := mul_bd1 b1 (cmpQ_bd (a * a) (b * b * c))
  have k1 : IntKind.i64.wrap (sgnQ b * sgnQ c) = sgnQ b * sgnQ c := IntWalk.i64_in _ (by omega)
  have k2 : IntKind.i64.wrap (sgnQ a * (sgnQ b * sgnQ c)) = sgnQ a * (sgnQ b * sgnQ c) := IntWalk.i64_in _ (by omega)
  have k3 : IntKind.i64.wrap (sgnQ a * cmpQ (a * a) (b * b * c)) = sgnQ a * cmpQ (a * a) (b * b * c) := IntWalk.i64_in _ (by omega)
  clear ha hb hc b1 b2 b3 b4
  generalize cmpQ (a * a) (b * b * c) = d at *
  generalize rtoa (b * b * c) = t5 at *
  generalize rtoa (a * a) = t1 at *
  generalize rtoa (b * b) = t2 at *
  generalize sgnQ a = x at *
  generalize sgnQ b = y at *
  generalize sgnQ c = z at *
  generalize rtoa a = ta at *
  generalize rtoa b = tb at *
  generalize rtoa c = tc at *
  obtain ⟨yz, q1⟩ : ∃ v, y * z = v := ⟨_, rfl⟩
  have j1 := k1.trans q1
  rw [q1] at k2 ⊢
  clear k1 q1
  obtain ⟨xyz, q2⟩ : ∃ v, x * yz = v := ⟨_, rfl⟩
  have j2 := k2.trans q2
  rw [q2]
  clear k2 q2
  obtain ⟨xd, q3⟩ : ∃ v, x * d = v := ⟨_, rfl⟩
  have j3 := k3.trans q3
  rw [q3]
  clear k3 q3
  by_cases h1 : xyz ≥ 0
  · rw [if_pos h1]
    by_cases h2 : x = 0
    · rw [if_pos h2]
      subst h2
      clear j3 O T1 T2 T3
      go_enter Tryz.func64, Tryz.ntmps64
      go_wp2_with fail
      ((with_reducible refine (S1.out _).mono ?_); rintro e w1 ⟨rfl, hb1⟩)
      have hB1 := hB0.trans (hb1.mono hB0.size); clear hb1
      go_wp2_with fail
      ((with_reducible refine (S2.out _).mono ?_); rintro e w2 ⟨rfl, hb2⟩)
      have hB2 := hB1.trans (hb2.mono hB1.size); clear hb2
      go_wp2_with fail
      ((with_reducible refine (S3.out _).mono ?_); rintro e w3 ⟨rfl, hb3⟩)
      have hB3 := hB2.trans (hb3.mono hB2.size); clear hb3
      go_wp2
      go_ret
      exact ⟨rfl, hB3⟩
    · rw [if_neg h2]
      have h3 := beq_no h2
      clear j3 O T1 T2 T3
      go_enter Tryz.func64, Tryz.ntmps64
      go_wp2_with fail
      ((with_reducible refine (S1.out _).mono ?_); rintro e w1 ⟨rfl, hb1⟩)
      have hB1 := hB0.trans (hb1.mono hB0.size); clear hb1
      go_wp2_with fail
      ((with_reducible refine (S2.out _).mono ?_); rintro e w2 ⟨rfl, hb2⟩)
      have hB2 := hB1.trans (hb2.mono hB1.size); clear hb2
      go_wp2_with fail
      ((with_reducible refine (S3.out _).mono ?_); rintro e w3 ⟨rfl, hb3⟩)
      have hB3 := hB2.trans (hb3.mono hB2.size); clear hb3
      go_wp2
      go_ret
      exact ⟨rfl, hB3⟩
  · rw [if_neg h1]
    go_enter Tryz.func64, Tryz.ntmps64
    go_wp2_with fail
    ((with_reducible refine (S1.out _).mono ?_); rintro e w1 ⟨rfl, hb1⟩)
    have hB1 := hB0.trans (hb1.mono hB0.size); clear hb1
    go_wp2_with fail
    ((with_reducible refine (S2.out _).mono ?_); rintro e w2 ⟨rfl, hb2⟩)
    have hB2 := hB1.trans (hb2.mono hB1.size); clear hb2
    go_wp2_with fail
    ((with_reducible refine (S3.out _).mono ?_); rintro e w3 ⟨rfl, hb3⟩)
    have hB3 := hB2.trans (hb3.mono hB2.size); clear hb3
    go_wp2_with fail
    ((with_reducible refine (T1.out _).mono ?_); rintro e w4 ⟨rfl, hb4⟩)
    have hB4 := hB3.trans (hb4.mono hB3.size); clear hb4
    go_wp2_with fail
    ((with_reducible refine (T2.out _).mono ?_); rintro e w5 ⟨rfl, hb5⟩)
    have hB5 := hB4.trans (hb5.mono hB4.size); clear hb5
    go_wp2_with fail
    ((with_reducible refine (T3.out _).mono ?_); rintro e w6 ⟨rfl, hb6⟩)
    have hB6 := hB5.trans (hb6.mono hB5.size); clear hb6
    go_wp2_with fail
    ((with_reducible refine (O.out _).mono ?_); rintro e w7 ⟨rfl, hb7⟩)
    have hB7 := hB6.trans (hb7.mono hB6.size); clear hb7
    go_wp2
    go_ret
    exact ⟨rfl, hB7⟩
theorem rtoa_two : rtoa 2 = [50] := by
  unfold rtoa; rw [if_pos (show (2 : Rat).den = 1 from rfl)]
  exact itoa_val (l := [50]) (by decide)
theorem szQ_two : szQ 2 1 := ⟨(lng_le 2 (k := 1) (by omega)).2 (by decide), (lng_le 1 (k := 1) (by omega)).2 (by decide)⟩
set_option maxRecDepth 100000 in
set_option maxHeartbeats 1000000 in
theorem Roots_q (a b c d e : Rat) (w : World) (ha : szQ a 30) (hb : szQ b 30) (hc : szQ c 30) (hd : szQ d 30) (he : szQ e 30) :
    Calls Tryz.prog 72 #[.string ⟨(rtoa a).toArray⟩, .string ⟨(rtoa b).toArray⟩, .string ⟨(rtoa c).toArray⟩, .string ⟨(rtoa d).toArray⟩, .string ⟨(rtoa e).toArray⟩] w (Ret w (.int .i64 (rootsQ a b c d e))) := by
  have hB0 := Below.refl w.heap.size w
  have zaa := szQ_mul ha ha; have zbb := szQ_mul hb hb; have zbbc := szQ_mul zbb hc; have zdd := szQ_mul hd hd; have zdde := szQ_mul zdd he
  have zp := szQ_add zaa zbbc; have zm := szQ_sub zp zdde; have zab := szQ_mul ha hb; have z2 := szQ_mul szQ_two zab
  have S1 := Lib.hid (fun W => Root_q a b c W (ha.mono (by omega)) (hb.mono (by omega)) (hc.mono (by omega)))
  have S2 := Lib.hid (fun W => Signum_q d W (hd.mono (by omega)))
  have S3 := Lib.hid (fun W => Signum_q e W (he.mono (by omega)))
  have T1 := Lib.hid (fun W => Times_q a a W (ha.mono (by omega)) (ha.mono (by omega)))
  have T2 := Lib.hid (fun W => Times_q b b W (hb.mono (by omega)) (hb.mono (by omega)))
  have T3 := Lib.hid (fun W => Times_q (b * b) c W (zbb.mono (by omega)) (hc.mono (by omega)))
  have T4 := Lib.hid (fun W => Plus_q (a * a) (b * b * c) W (zaa.mono (by omega)) (zbbc.mono (by omega)))
  have T5 := Lib.hid (fun W => Times_q d d W (hd.mono (by omega)) (hd.mono (by omega)))
  have T6 := Lib.hid (fun W => Times_q (d * d) e W (zdd.mono (by omega)) (he.mono (by omega)))
  have T7 := Lib.hid (fun W => Minus_q (a * a + b * b * c) (d * d * e) W (zp.mono (by omega)) (zdde.mono (by omega)))
  have T8 := Lib.hid (fun W => Times_q a b W (ha.mono (by omega)) (hb.mono (by omega)))
  have t9 := fun W => Times_q 2 (a * b) W (szQ_two.mono (by omega)) (zab.mono (by omega))
  rw [rtoa_two] at t9
  have T9 := Lib.hid t9
  have O := Lib.hid (fun W => Root_q (a * a + b * b * c - d * d * e) (2 * (a * b)) c W (zm.mono (by omega)) (z2.mono (by omega)) (hc.mono (by omega)))
  unfold rootsQ
  have b1 := rootQ_bd a b c; have b2 := mul_bd1 (sgnQ_bd d) (sgnQ_bd e); have b3 := mul_bd1 b1 b2; have b4 := mul_bd1 b1 (rootQ_bd (a * a + b * b * c - d * d * e) (2 * (a * b)) c)
  have k1 : IntKind.i64.wrap (sgnQ d * sgnQ e) = sgnQ d * sgnQ e := IntWalk.i64_in _ (by omega)
  have k2 : IntKind.i64.wrap (rootQ a b c * (sgnQ d * sgnQ e)) = rootQ a b c * (sgnQ d * sgnQ e) := IntWalk.i64_in _ (by omega)
  have k3 : IntKind.i64.wrap (rootQ a b c * rootQ (a * a + b * b * c - d * d * e) (2 * (a * b)) c) = rootQ a b c * rootQ (a * a + b * b * c - d * d * e) (2 * (a * b)) c := IntWalk.i64_in _ (by omega)
  clear ha hb hc hd he b1 b2 b3 b4 t9 zaa zbb zbbc zdd zdde zp zm zab z2
  generalize rootQ (a * a + b * b * c - d * d * e) (2 * (a * b)) c = r at *
  generalize rootQ a b c = x at *
  generalize rtoa (a * a + b * b * c - d * d * e) = u1 at *
  generalize rtoa (a * a + b * b * c) = u2 at *
  generalize rtoa (2 * (a * b)) = u3 at *
  generalize rtoa (d * d * e) = u4 at *
  generalize rtoa (d * d) = u5 at *
  generalize rtoa (a * b) = u6 at *
  generalize rtoa (b * b * c) = u7 at *
  generalize rtoa (a * a) = u8 at *
  generalize rtoa (b * b) = u9 at *
  generalize sgnQ d = y at *
  generalize sgnQ e = z at *
  generalize rtoa a = ta at *
  generalize rtoa b = tb at *
  generalize rtoa c = tc at *
  generalize rtoa d = td at *
  generalize rtoa e = te at *
  obtain ⟨yz, q1⟩ : ∃ v, y * z = v := ⟨_, rfl⟩
  have j1 := k1.trans q1
  rw [q1] at k2 ⊢
  clear k1 q1
  obtain ⟨xyz, q2⟩ : ∃ v, x * yz = v := ⟨_, rfl⟩
  have j2 := k2.trans q2
  rw [q2]
  clear k2 q2
  obtain ⟨xr, q3⟩ : ∃ v, x * r = v := ⟨_, rfl⟩
  have j3 := k3.trans q3
  rw [q3]
  clear k3 q3
  by_cases h1 : xyz ≥ 0
  · rw [if_pos h1]
    by_cases h2 : x = 0
    · rw [if_pos h2]
      subst h2
      clear j3 O T1 T2 T3 T4 T5 T6 T7 T8 T9
      go_enter Tryz.func72, Tryz.ntmps72
      go_wp2_with fail
      ((with_reducible refine (S1.out _).mono ?_); rintro e w1 ⟨rfl, hb1⟩)
      have hB1 := hB0.trans (hb1.mono hB0.size); clear hb1
      go_wp2_with fail
      ((with_reducible refine (S2.out _).mono ?_); rintro e w2 ⟨rfl, hb2⟩)
      have hB2 := hB1.trans (hb2.mono hB1.size); clear hb2
      go_wp2_with fail
      ((with_reducible refine (S3.out _).mono ?_); rintro e w3 ⟨rfl, hb3⟩)
      have hB3 := hB2.trans (hb3.mono hB2.size); clear hb3
      go_wp2
      go_ret
      exact ⟨rfl, hB3⟩
    · rw [if_neg h2]
      have h3 := beq_no h2
      clear j3 O T1 T2 T3 T4 T5 T6 T7 T8 T9
      go_enter Tryz.func72, Tryz.ntmps72
      go_wp2_with fail
      ((with_reducible refine (S1.out _).mono ?_); rintro e w1 ⟨rfl, hb1⟩)
      have hB1 := hB0.trans (hb1.mono hB0.size); clear hb1
      go_wp2_with fail
      ((with_reducible refine (S2.out _).mono ?_); rintro e w2 ⟨rfl, hb2⟩)
      have hB2 := hB1.trans (hb2.mono hB1.size); clear hb2
      go_wp2_with fail
      ((with_reducible refine (S3.out _).mono ?_); rintro e w3 ⟨rfl, hb3⟩)
      have hB3 := hB2.trans (hb3.mono hB2.size); clear hb3
      go_wp2
      go_ret
      exact ⟨rfl, hB3⟩
  · rw [if_neg h1]
    go_enter Tryz.func72, Tryz.ntmps72
    go_wp2_with fail
    ((with_reducible refine (S1.out _).mono ?_); rintro e w1 ⟨rfl, hb1⟩)
    have hB1 := hB0.trans (hb1.mono hB0.size); clear hb1
    go_wp2_with fail
    ((with_reducible refine (S2.out _).mono ?_); rintro e w2 ⟨rfl, hb2⟩)
    have hB2 := hB1.trans (hb2.mono hB1.size); clear hb2
    go_wp2_with fail
    ((with_reducible refine (S3.out _).mono ?_); rintro e w3 ⟨rfl, hb3⟩)
    have hB3 := hB2.trans (hb3.mono hB2.size); clear hb3
    go_wp2_with fail
    ((with_reducible refine (T1.out _).mono ?_); rintro e w4 ⟨rfl, hb4⟩)
    have hB4 := hB3.trans (hb4.mono hB3.size); clear hb4
    go_wp2_with fail
    ((with_reducible refine (T2.out _).mono ?_); rintro e w5 ⟨rfl, hb5⟩)
    have hB5 := hB4.trans (hb5.mono hB4.size); clear hb5
    go_wp2_with fail
    ((with_reducible refine (T3.out _).mono ?_); rintro e w6 ⟨rfl, hb6⟩)
    have hB6 := hB5.trans (hb6.mono hB5.size); clear hb6
    go_wp2_with fail
    ((with_reducible refine (T4.out _).mono ?_); rintro e w7 ⟨rfl, hb7⟩)
    have hB7 := hB6.trans (hb7.mono hB6.size); clear hb7
    go_wp2_with fail
    ((with_reducible refine (T5.out _).mono ?_); rintro e w8 ⟨rfl, hb8⟩)
    have hB8 := hB7.trans (hb8.mono hB7.size); clear hb8
    go_wp2_with fail
    ((with_reducible refine (T6.out _).mono ?_); rintro e w9 ⟨rfl, hb9⟩)
    have hB9 := hB8.trans (hb9.mono hB8.size); clear hb9
    go_wp2_with fail
    ((with_reducible refine (T7.out _).mono ?_); rintro e w10 ⟨rfl, hb10⟩)
    have hB10 := hB9.trans (hb10.mono hB9.size); clear hb10
    go_wp2_with fail
    ((with_reducible refine (T8.out _).mono ?_); rintro e w11 ⟨rfl, hb11⟩)
    have hB11 := hB10.trans (hb11.mono hB10.size); clear hb11
    go_wp2_with fail
    ((with_reducible refine (T9.out _).mono ?_); rintro e w12 ⟨rfl, hb12⟩)
    have hB12 := hB11.trans (hb12.mono hB11.size); clear hb12
    go_wp2_with fail
    ((with_reducible refine (O.out _).mono ?_); rintro e w13 ⟨rfl, hb13⟩)
    have hB13 := hB12.trans (hb13.mono hB12.size); clear hb13
    go_wp2
    go_ret
    exact ⟨rfl, hB13⟩
theorem rdrop {ls : List Txt} {i : Nat} (h : i < ls.length) : firstR (ls.drop i) = if rchk ls[i] = 0 then firstR (ls.drop (i + 1)) else rchk ls[i] := by
  rw [List.drop_eq_getElem_cons h]; rfl
set_option maxRecDepth 100000 in
set_option maxHeartbeats 2000000 in
theorem rSignRoot_err (a b c : Txt) (w : World) (hl : ∀ l ∈ [a, b, c], l.length ≤ 140737488355328) (h : firstR [a, b, c] ≠ 0) :
    Calls Tryz.prog 16 #[.string ⟨a.toArray⟩, .string ⟨b.toArray⟩, .string ⟨c.toArray⟩] w (Ret w (int2 (0, firstR [a, b, c]))) := by
  have HR := Lib.hid (RS.lit w [a, b, c] 22)
  change Hid (RS (w.alloc (.cells #[.string ⟨a.toArray⟩, .string ⟨b.toArray⟩, .string ⟨c.toArray⟩] 22)) w.heap.size 0 [a, b, c]) at HR
  obtain ⟨ls, hls⟩ : ∃ ls : List Txt, ls = [a, b, c] := ⟨_, rfl⟩
  have HN := Lib.hid (show ls.length = 3 by rw [hls]; rfl)
  rw [← hls] at HR hl h ⊢
  have HL := Lib.hid hl; have HX := Lib.hid h
  clear hls hl h
  go_enter Tryz.func16, Tryz.ntmps16
  go_wp2_with fail
  go_loopw [16] (fun si wr => ∃ i : Nat, si = .int .i64 (i : Int) ∧ i ≤ 3 ∧ Hid (firstR (ls.drop i) = firstR ls) ∧ Below w.heap.size w wr ∧ Below (w.heap.size + 1) (w.alloc (.cells #[.string ⟨a.toArray⟩, .string ⟨b.toArray⟩, .string ⟨c.toArray⟩] 22)) wr) (fun si _ => 3 - (intOf si).toNat)
  case atStart => exact ⟨0, rfl, Nat.zero_le _, rfl, (Below.refl _ _).alloc (Nat.le_refl _) _, Below.refl _ _⟩
  case round =>
    obtain ⟨i, rfl, hi, hE, hB, hD⟩ := hrel
    by_cases hlt : i < 3
    · have hil : i < ls.length := by rw [HN.out]; exact hlt
      have hc := (HR.out.later hD (Nat.lt_succ_self _)) i hil
      rw [Nat.zero_add] at hc
      have hd := rdrop hil
      have hll := HL.out ls[i] (List.getElem_mem hil)
      obtain ⟨l, hle⟩ : ∃ l, ls[i] = l := ⟨_, rfl⟩
      rw [hle] at hc hd hll
      have HC := Lib.hid (rqCheck_c l wr hll)
      by_cases h0 : rchk l = 0
      · rw [h0] at HC
        have HE := Lib.hid (show firstR (ls.drop (i + 1)) = firstR ls by rw [← hE.out, hd, if_pos h0])
        clear hle hd hll h0 hE
        go_wp2_with fail
        ((with_reducible refine (HC.out).mono ?_); rintro e w2 ⟨rfl, hb2⟩)
        have hB2 := hB.trans (hb2.mono hB.size)
        have hD2 := hD.trans (hb2.mono (by have := hD.size; simpa using this))
        go_wp2
        go_roundw
        case rel => exact ⟨i + 1, by go_num, by omega, HE, hB2, hD2⟩
        case measure => simp [intOf]; omega
      · have HE := Lib.hid (show firstR ls = rchk l by rw [← hE.out, hd, if_neg h0])
        have h3 := bne_ne h0
        clear hle hd hll h0 hE
        obtain ⟨x, hx⟩ : ∃ x, rchk l = x := ⟨_, rfl⟩
        rw [hx] at HE HC h3
        clear hx
        go_wp2_with fail
        ((with_reducible refine (HC.out).mono ?_); rintro e w2 ⟨rfl, hb2⟩)
        have hB2 := hB.trans (hb2.mono hB.size)
        go_wp2
        go_ret2
        show Ret _ _ _ _
        rw [HE.out]
        exact ⟨rfl, hB2⟩
    · exfalso
      obtain rfl : i = 3 := by omega
      refine HX.out ?_
      rw [← hE.out, ← HN.out, List.drop_length]; rfl
set_option maxRecDepth 100000 in
set_option maxHeartbeats 2000000 in
theorem rSignRoot_ok (p q r : Rat) (w : World) (hp : szQ p 30) (hq : szQ q 30) (hr : szQ r 30) : Calls Tryz.prog 16 #[.string ⟨(rtoa p).toArray⟩, .string ⟨(rtoa q).toArray⟩, .string ⟨(rtoa r).toArray⟩] w (Ret w (int2 (if r < 0 then (0, 2) else (rootQ p q r, 0)))) := by
  have hx : firstR [rtoa p, rtoa q, rtoa r] = 0 := firstR_ok (qs := [p, q, r]) (by intro x hx; simp at hx; rcases hx with rfl | rfl | rfl <;> first | exact hp.ok (by omega) | exact hq.ok (by omega) | exact hr.ok (by omega))
  have hl : ∀ l ∈ [rtoa p, rtoa q, rtoa r], l.length ≤ 140737488355328 := by intro l h; simp at h; rcases h with rfl | rfl | rfl <;> first | exact tlen (hp.ok (by omega)) | exact tlen (hq.ok (by omega)) | exact tlen (hr.ok (by omega))
  have HR := Lib.hid (RS.lit w [rtoa p, rtoa q, rtoa r] 22)
  change Hid (RS (w.alloc (.cells #[.string ⟨(rtoa p).toArray⟩, .string ⟨(rtoa q).toArray⟩, .string ⟨(rtoa r).toArray⟩] 22)) w.heap.size 0 [rtoa p, rtoa q, rtoa r]) at HR
  obtain ⟨ls, hls⟩ : ∃ ls : List Txt, ls = [rtoa p, rtoa q, rtoa r] := ⟨_, rfl⟩
  have HN := Lib.hid (show ls.length = 3 by rw [hls]; rfl)
  rw [← hls] at HR hl hx
  have HL := Lib.hid hl; have HX := Lib.hid hx
  clear hls hl hx
  have HS := Lib.hid (fun W => Signum_q r W (hr.mono (by omega)))
  have HO := Lib.hid (fun W => Root_q p q r W (hp.mono (by omega)) (hq.mono (by omega)) (hr.mono (by omega)))
  clear hp hq hr
  have hs : (r < 0 ∧ sgnQ r = -1) ∨ (¬ r < 0 ∧ ¬ sgnQ r < 0) := by
    rcases sgnQ_spec r with ⟨h, e⟩ | ⟨h, e⟩ | ⟨h, e⟩
    · exact .inl ⟨h, e⟩
    · exact .inr ⟨by rw [h]; exact Rat.lt_irrefl, by omega⟩
    · exact .inr ⟨by grind, by omega⟩
  have HSG := Lib.hid hs
  clear hs
  obtain ⟨res, hres⟩ : ∃ x, (if r < 0 then ((0 : Int), (2 : Int)) else (rootQ p q r, 0)) = x := ⟨_, rfl⟩
  rw [hres]
  have HRES := Lib.hid hres
  clear hres
  go_enter Tryz.func16, Tryz.ntmps16
  go_wp2_with fail
  go_loopw [16] (fun si wr => ∃ i : Nat, si = .int .i64 (i : Int) ∧ i ≤ 3 ∧ Hid (firstR (ls.drop i) = firstR ls) ∧ Below w.heap.size w wr ∧ Below (w.heap.size + 1) (w.alloc (.cells #[.string ⟨(rtoa p).toArray⟩, .string ⟨(rtoa q).toArray⟩, .string ⟨(rtoa r).toArray⟩] 22)) wr) (fun si _ => 3 - (intOf si).toNat)
  case atStart => exact ⟨0, rfl, Nat.zero_le _, rfl, (Below.refl _ _).alloc (Nat.le_refl _) _, Below.refl _ _⟩
  case round =>
    obtain ⟨i, rfl, hi, hE, hB, hD⟩ := hrel
    by_cases hlt : i < 3
    · have hil : i < ls.length := by rw [HN.out]; exact hlt
      have hc := (HR.out.later hD (Nat.lt_succ_self _)) i hil
      rw [Nat.zero_add] at hc
      have hd := rdrop hil
      have hll := HL.out ls[i] (List.getElem_mem hil)
      obtain ⟨l, hle⟩ : ∃ l, ls[i] = l := ⟨_, rfl⟩
      rw [hle] at hc hd hll
      have HC := Lib.hid (rqCheck_c l wr hll)
      by_cases h0 : rchk l = 0
      · rw [h0] at HC
        have HE := Lib.hid (show firstR (ls.drop (i + 1)) = firstR ls by rw [← hE.out, hd, if_pos h0])
        clear hle hd hll h0 hE
        go_wp2_with fail
        ((with_reducible refine (HC.out).mono ?_); rintro e w2 ⟨rfl, hb2⟩)
        have hB2 := hB.trans (hb2.mono hB.size)
        have hD2 := hD.trans (hb2.mono (by have := hD.size; simpa using this))
        go_wp2
        go_roundw
        case rel => exact ⟨i + 1, by go_num, by omega, HE, hB2, hD2⟩
        case measure => simp [intOf]; omega
      · exfalso
        refine h0 ?_
        have := hE.out; rw [HX.out, hd, if_neg h0] at this; exact this
    · obtain rfl : i = 3 := by omega
      clear hE hD
      rcases HSG.out with ⟨h1, h2⟩ | ⟨h1, h2⟩
      · rw [h2] at HS
        clear h2
        go_wp2_with fail
        ((with_reducible refine (HS.out _).mono ?_); rintro e w2 ⟨rfl, hb2⟩)
        have hB2 := hB.trans (hb2.mono hB.size)
        go_wp2
        go_ret2
        show Ret _ _ _ _
        rw [← HRES.out, if_pos h1]
        exact ⟨rfl, hB2⟩
      · generalize sgnQ r = s at *
        go_wp2_with fail
        ((with_reducible refine (HS.out _).mono ?_); rintro e w2 ⟨rfl, hb2⟩)
        have hB2 := hB.trans (hb2.mono hB.size)
        go_wp2_with fail
        ((with_reducible refine (HO.out _).mono ?_); rintro e w3 ⟨rfl, hb3⟩)
        have hB3 := hB2.trans (hb3.mono hB2.size)
        go_wp2
        go_ret2
        show Ret _ _ _ _
        rw [← HRES.out, if_neg h1]
        exact ⟨rfl, hB3⟩
set_option maxRecDepth 100000 in
set_option maxHeartbeats 2000000 in
theorem rSignRoots_err (a b c d e : Txt) (w : World) (hl : ∀ l ∈ [a, b, c, d, e], l.length ≤ 140737488355328) (h : firstR [a, b, c, d, e] ≠ 0) :
    Calls Tryz.prog 18 #[.string ⟨a.toArray⟩, .string ⟨b.toArray⟩, .string ⟨c.toArray⟩, .string ⟨d.toArray⟩, .string ⟨e.toArray⟩] w (Ret w (int2 (0, firstR [a, b, c, d, e]))) := by
  have HR := Lib.hid (RS.lit w [a, b, c, d, e] 22)
  change Hid (RS (w.alloc (.cells #[.string ⟨a.toArray⟩, .string ⟨b.toArray⟩, .string ⟨c.toArray⟩, .string ⟨d.toArray⟩, .string ⟨e.toArray⟩] 22)) w.heap.size 0 [a, b, c, d, e]) at HR
  obtain ⟨ls, hls⟩ : ∃ ls : List Txt, ls = [a, b, c, d, e] := ⟨_, rfl⟩
  have HN := Lib.hid (show ls.length = 5 by rw [hls]; rfl)
  rw [← hls] at HR hl h ⊢
  have HL := Lib.hid hl; have HX := Lib.hid h
  clear hls hl h
  go_enter Tryz.func18, Tryz.ntmps18
  go_wp2_with fail
  go_loopw [22] (fun si wr => ∃ i : Nat, si = .int .i64 (i : Int) ∧ i ≤ 5 ∧ Hid (firstR (ls.drop i) = firstR ls) ∧ Below w.heap.size w wr ∧ Below (w.heap.size + 1) (w.alloc (.cells #[.string ⟨a.toArray⟩, .string ⟨b.toArray⟩, .string ⟨c.toArray⟩, .string ⟨d.toArray⟩, .string ⟨e.toArray⟩] 22)) wr) (fun si _ => 5 - (intOf si).toNat)
  case atStart => exact ⟨0, rfl, Nat.zero_le _, rfl, (Below.refl _ _).alloc (Nat.le_refl _) _, Below.refl _ _⟩
  case round =>
    obtain ⟨i, rfl, hi, hE, hB, hD⟩ := hrel
    by_cases hlt : i < 5
    · have hil : i < ls.length := by rw [HN.out]; exact hlt
      have hc := (HR.out.later hD (Nat.lt_succ_self _)) i hil
      rw [Nat.zero_add] at hc
      have hd := rdrop hil
      have hll := HL.out ls[i] (List.getElem_mem hil)
      obtain ⟨l, hle⟩ : ∃ l, ls[i] = l := ⟨_, rfl⟩
      rw [hle] at hc hd hll
      have HC := Lib.hid (rqCheck_c l wr hll)
      by_cases h0 : rchk l = 0
      · rw [h0] at HC
        have HE := Lib.hid (show firstR (ls.drop (i + 1)) = firstR ls by rw [← hE.out, hd, if_pos h0])
        clear hle hd hll h0 hE
        go_wp2_with fail
        ((with_reducible refine (HC.out).mono ?_); rintro e w2 ⟨rfl, hb2⟩)
        have hB2 := hB.trans (hb2.mono hB.size)
        have hD2 := hD.trans (hb2.mono (by have := hD.size; simpa using this))
        go_wp2
        go_roundw
        case rel => exact ⟨i + 1, by go_num, by omega, HE, hB2, hD2⟩
        case measure => simp [intOf]; omega
      · have HE := Lib.hid (show firstR ls = rchk l by rw [← hE.out, hd, if_neg h0])
        have h3 := bne_ne h0
        clear hle hd hll h0 hE
        obtain ⟨x, hx⟩ : ∃ x, rchk l = x := ⟨_, rfl⟩
        rw [hx] at HE HC h3
        clear hx
        go_wp2_with fail
        ((with_reducible refine (HC.out).mono ?_); rintro e w2 ⟨rfl, hb2⟩)
        have hB2 := hB.trans (hb2.mono hB.size)
        go_wp2
        go_ret2
        show Ret _ _ _ _
        rw [HE.out]
        exact ⟨rfl, hB2⟩
    · exfalso
      obtain rfl : i = 5 := by omega
      refine HX.out ?_
      rw [← hE.out, ← HN.out, List.drop_length]; rfl
set_option maxRecDepth 100000 in
set_option maxHeartbeats 2000000 in
theorem rSignRoots_ok (p q r u v : Rat) (w : World) (hp : szQ p 30) (hq : szQ q 30) (hr : szQ r 30) (hu : szQ u 30) (hv : szQ v 30) : Calls Tryz.prog 18 #[.string ⟨(rtoa p).toArray⟩, .string ⟨(rtoa q).toArray⟩, .string ⟨(rtoa r).toArray⟩, .string ⟨(rtoa u).toArray⟩, .string ⟨(rtoa v).toArray⟩] w (Ret w (int2 (if r < 0 ∨ v < 0 then (0, 2) else (rootsQ p q r u v, 0)))) := by
  have hok : ∀ x ∈ [p, q, r, u, v], okQ x := by intro x hx; simp at hx; rcases hx with rfl | rfl | rfl | rfl | rfl <;> first | exact hp.ok (by omega) | exact hq.ok (by omega) | exact hr.ok (by omega) | exact hu.ok (by omega) | exact hv.ok (by omega)
  have hx : firstR [rtoa p, rtoa q, rtoa r, rtoa u, rtoa v] = 0 := firstR_ok (qs := [p, q, r, u, v]) hok
  have hl : ∀ l ∈ [rtoa p, rtoa q, rtoa r, rtoa u, rtoa v], l.length ≤ 140737488355328 := by
    intro l h
    obtain ⟨x, hx, rfl⟩ := List.mem_map.1 (show l ∈ [p, q, r, u, v].map rtoa from h)
    exact tlen (hok x hx)
  clear hok
  have HR := Lib.hid (RS.lit w [rtoa p, rtoa q, rtoa r, rtoa u, rtoa v] 22)
  change Hid (RS (w.alloc (.cells #[.string ⟨(rtoa p).toArray⟩, .string ⟨(rtoa q).toArray⟩, .string ⟨(rtoa r).toArray⟩, .string ⟨(rtoa u).toArray⟩, .string ⟨(rtoa v).toArray⟩] 22)) w.heap.size 0 [rtoa p, rtoa q, rtoa r, rtoa u, rtoa v]) at HR
  obtain ⟨ls, hls⟩ : ∃ ls : List Txt, ls = [rtoa p, rtoa q, rtoa r, rtoa u, rtoa v] := ⟨_, rfl⟩
  have HN := Lib.hid (show ls.length = 5 by rw [hls]; rfl)
  rw [← hls] at HR hl hx
  have HL := Lib.hid hl; have HX := Lib.hid hx
  clear hls hl hx
  have HS := Lib.hid (fun W => Signum_q r W (hr.mono (by omega)))
  have HT := Lib.hid (fun W => Signum_q v W (hv.mono (by omega)))
  have HO := Lib.hid (fun W => Roots_q p q r u v W hp hq hr hu hv)
  clear hp hq hr hu hv
  have hs : ∀ r : Rat, (r < 0 ∧ sgnQ r = -1) ∨ (¬ r < 0 ∧ ¬ sgnQ r < 0) := fun r => by
    rcases sgnQ_spec r with ⟨h, e⟩ | ⟨h, e⟩ | ⟨h, e⟩
    · exact .inl ⟨h, e⟩
    · exact .inr ⟨by rw [h]; exact Rat.lt_irrefl, by omega⟩
    · exact .inr ⟨by grind, by omega⟩
  have HS1 := Lib.hid (hs r); have HS2 := Lib.hid (hs v)
  clear hs
  obtain ⟨res, hres⟩ : ∃ x, (if r < 0 ∨ v < 0 then ((0 : Int), (2 : Int)) else (rootsQ p q r u v, 0)) = x := ⟨_, rfl⟩
  rw [hres]
  have HRES := Lib.hid hres
  clear hres
  go_enter Tryz.func18, Tryz.ntmps18
  go_wp2_with fail
  go_loopw [22] (fun si wr => ∃ i : Nat, si = .int .i64 (i : Int) ∧ i ≤ 5 ∧ Hid (firstR (ls.drop i) = firstR ls) ∧ Below w.heap.size w wr ∧ Below (w.heap.size + 1) (w.alloc (.cells #[.string ⟨(rtoa p).toArray⟩, .string ⟨(rtoa q).toArray⟩, .string ⟨(rtoa r).toArray⟩, .string ⟨(rtoa u).toArray⟩, .string ⟨(rtoa v).toArray⟩] 22)) wr) (fun si _ => 5 - (intOf si).toNat)
  case atStart => exact ⟨0, rfl, Nat.zero_le _, rfl, (Below.refl _ _).alloc (Nat.le_refl _) _, Below.refl _ _⟩
  case round =>
    obtain ⟨i, rfl, hi, hE, hB, hD⟩ := hrel
    by_cases hlt : i < 5
    · have hil : i < ls.length := by rw [HN.out]; exact hlt
      have hc := (HR.out.later hD (Nat.lt_succ_self _)) i hil
      rw [Nat.zero_add] at hc
      have hd := rdrop hil
      have hll := HL.out ls[i] (List.getElem_mem hil)
      obtain ⟨l, hle⟩ : ∃ l, ls[i] = l := ⟨_, rfl⟩
      rw [hle] at hc hd hll
      have HC := Lib.hid (rqCheck_c l wr hll)
      by_cases h0 : rchk l = 0
      · rw [h0] at HC
        have HE := Lib.hid (show firstR (ls.drop (i + 1)) = firstR ls by rw [← hE.out, hd, if_pos h0])
        clear hle hd hll h0 hE
        go_wp2_with fail
        ((with_reducible refine (HC.out).mono ?_); rintro e w2 ⟨rfl, hb2⟩)
        have hB2 := hB.trans (hb2.mono hB.size)
        have hD2 := hD.trans (hb2.mono (by have := hD.size; simpa using this))
        go_wp2
        go_roundw
        case rel => exact ⟨i + 1, by go_num, by omega, HE, hB2, hD2⟩
        case measure => simp [intOf]; omega
      · exfalso
        refine h0 ?_
        have := hE.out; rw [HX.out, hd, if_neg h0] at this; exact this
    · obtain rfl : i = 5 := by omega
      clear hE hD
      rcases HS1.out with ⟨h1, h2⟩ | ⟨h1, h2⟩
      · rw [h2] at HS
        clear h2
        go_wp2_with fail
        ((with_reducible refine (HS.out _).mono ?_); rintro e w2 ⟨rfl, hb2⟩)
        have hB2 := hB.trans (hb2.mono hB.size)
        go_wp2
        go_ret2
        show Ret _ _ _ _
        rw [← HRES.out, if_pos (.inl h1)]
        exact ⟨rfl, hB2⟩
      · rcases HS2.out with ⟨h3, h4⟩ | ⟨h3, h4⟩
        · rw [h4] at HT
          clear h4
          have h5 : decide (sgnQ r < 0) = false := decide_eq_false (by omega)
          generalize sgnQ r = s at *
          go_wp2_with fail
          ((with_reducible refine (HS.out _).mono ?_); rintro e w2 ⟨rfl, hb2⟩)
          have hB2 := hB.trans (hb2.mono hB.size)
          go_wp2_with fail
          ((with_reducible refine (HT.out _).mono ?_); rintro e w3 ⟨rfl, hb3⟩)
          have hB3 := hB2.trans (hb3.mono hB2.size)
          go_wp2
          go_ret2
          show Ret _ _ _ _
          rw [← HRES.out, if_pos (.inr h3)]
          exact ⟨rfl, hB3⟩
        · have h5 : decide (sgnQ r < 0) = false := decide_eq_false (by omega)
          have h6 : decide (sgnQ v < 0) = false := decide_eq_false (by omega)
          generalize sgnQ r = s at *
          generalize sgnQ v = s2 at *
          go_wp2_with fail
          ((with_reducible refine (HS.out _).mono ?_); rintro e w2 ⟨rfl, hb2⟩)
          have hB2 := hB.trans (hb2.mono hB.size)
          go_wp2_with fail
          ((with_reducible refine (HT.out _).mono ?_); rintro e w3 ⟨rfl, hb3⟩)
          have hB3 := hB2.trans (hb3.mono hB2.size)
          go_wp2_with fail
          ((with_reducible refine (HO.out _).mono ?_); rintro e w4 ⟨rfl, hb4⟩)
          have hB4 := hB3.trans (hb4.mono hB3.size)
          go_wp2
          go_ret2
          show Ret _ _ _ _
          rw [← HRES.out, if_neg (by rintro (h | h); exact h1 h; exact h3 h)]
          exact ⟨rfl, hB4⟩
end Go.Proofs.Wk
