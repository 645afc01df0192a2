/- THE LAW WholeChooses: it returns true at all numbers and texts. -/
import Derived.Test.YtjljappilpkelaaDoorL1S
import Derived.Test.YtjljappilpkelaaDoorApp
import Derived.Test.YtjljappilpkelaaDoorMathU
namespace Go.Proofs.Wk
open Go.RowKit Mt

/-- The texts of the first binomials of m. -/
def chos (m i : Nat) : List Txt := (List.range i).map fun k => Lib.itoa (cho m k)
theorem chos_succ (m i : Nat) : chos m (i + 1) = chos m i ++ [Lib.itoa (cho m i)] := by unfold chos; rw [List.range_succ, List.map_append]; rfl
theorem chos_len (m i : Nat) : (chos m i).length = i := by simp [chos]
theorem chos_val (m i : Nat) : ((chos m i).map val).sum = (choSum m i : Int) := by
  unfold chos choSum
  rw [List.map_map]
  have : (val ∘ fun k => Lib.itoa (cho m k)) = fun k => (cho m k : Int) := by funext k; exact val_itoa _
  rw [this]
  induction i with
  | zero => rfl
  | succ i ih => rw [List.range_succ, List.map_append, List.map_append, List.sum_append, List.sum_append, ih]; simp
theorem kept_cho {m k : Nat} (h : m ≤ 60) : kept (cho m k : Int) = (Lib.itoa (cho m k), 0) := by
  have h1 := cho_le_pow m k
  have h2 := pow60 h
  have h3 : ((2 ^ m : Nat) : Int) = (2 : Int) ^ m := by simp
  exact kept_small (by omega) (by omega)
theorem kept_choi {m j : Int} (h0 : 0 ≤ m) (h : m ≤ 60) : kept (choi m j) = (Lib.itoa (choi m j), 0) := by
  have h1 := @choi_bd m j
  have h2 := pow60 (m := m.toNat) (by omega)
  exact kept_small (by omega) (by omega)
theorem chos_chk {m i : Nat} (h : m ≤ 60) : ∀ l ∈ chos m i, chk l = 0 := by
  intro l hl
  obtain ⟨k, _, rfl⟩ := List.mem_map.1 hl
  have h1 := kept_chk (cho m k : Int)
  rw [kept_cho h] at h1
  by_cases hc : chk (Lib.itoa (cho m k : Int)) = 0
  · exact hc
  · rw [if_neg hc] at h1
    exact (Prod.mk.inj h1).2.symm
theorem firstErr_all : ∀ {ls : List Txt}, (∀ l ∈ ls, chk l = 0) → firstErr ls = 0
  | [], _ => rfl
  | a :: t, h => by unfold firstErr; rw [if_pos (h a (by simp))]; exact firstErr_all fun l hl => h l (by simp [hl])
theorem chos_tot {m : Nat} (h : m ≤ 60) : tot2 (chos m (m + 1)) = (Lib.itoa (2 ^ m), 0) := by
  unfold tot2
  rw [chos_len, if_neg (by omega), if_pos (firstErr_all (chos_chk h)), chos_val, choSum_all]
  rw [show ((2 ^ m : Nat) : Int) = (2 : Int) ^ m by simp]
  have := pow60 h
  have h0 : (0 : Int) ≤ 2 ^ m := Int.le_of_lt (Int.pow_pos (by omega))
  exact kept_small (by omega) (by omega)
theorem two_pow {m : Nat} (h : m ≤ 60) : un1 (pow2 (m : Int)) [50] = (Lib.itoa (2 ^ m), 0) := by
  rw [show un1 (pow2 (m : Int)) [50] = pow2 (m : Int) 2 from rfl]
  unfold pow2
  rw [if_neg (by omega), Int.toNat_natCast]
  have := pow60 h
  have h0 : (0 : Int) ≤ 2 ^ m := Int.le_of_lt (Int.pow_pos (by omega))
  exact kept_small (by omega) (by omega)
theorem bino_is {m j : Int} (h0 : 0 ≤ m) (h : m ≤ 60) : bino m j = (Lib.itoa (choi m j), 0) := by
  rw [bino_ok (by omega), kept_choi h0 h]
theorem info_Int : (Tryd.prog.info? 22).map (fun i => (i.zero, i.size, i.bytes)) = some (some (.string ⟨#[]⟩), 1, 16) := by kernel_rfl

set_option maxRecDepth 100000 in
set_option maxHeartbeats 8000000 in
theorem chooses_yes (n k : Nat) (x : Int) (w : World) (hg : Good w) (hn : n ≤ 255) (hk : k ≤ 255) (hx : lng x ≤ 12) (hl : (Lib.itoa x).length ≤ 12) (h : allShort [Lib.itoa x] = true) :
    Calls Tryd.prog 3 #[.int .u8 (n : Int), .int .u8 (k : Int), .string ⟨(Lib.itoa x).toArray⟩] w (Ret w (.bool true)) := by
  have HG := Lib.hid hg
  have hS := fun W t => short1 (Lib.itoa x) W (txt_ok (by omega)) t
  rw [h] at hS
  have HS := Lib.hid hS
  have hl1 : ¬ (12 : Int) < ((Lib.itoa x).length : Int) := by omega
  obtain ⟨M, hM⟩ : ∃ M : Nat, n % 60 = M := ⟨_, rfl⟩
  obtain ⟨J, hJ⟩ : ∃ J : Nat, k % 70 = J := ⟨_, rfl⟩
  have hM1 : (n : Int) % 60 = (M : Int) := by omega
  have hJ1 : (k : Int) % 70 = (J : Int) := by omega
  have hMb : M ≤ 59 := by omega
  have hJb : J ≤ 69 := by omega
  have B1 := Lib.hid (fun (i : Nat) W hW => show Calls Tryd.prog 9 #[.int .i64 (1 + (M : Int)), .int .i64 (i : Int)] W (Ret W (ans2 (Lib.itoa (cho (M + 1) i), 0))) from by
    have := wBinomial_c (1 + (M : Int)) (i : Int) W hW
    rw [bino_is (by omega) (by omega)] at this
    rw [show choi (1 + (M : Int)) (i : Int) = (cho (M + 1) i : Int) from by
      unfold choi
      by_cases hi : i ≤ M + 1
      · rw [if_pos (by omega), show ((1 : Int) + M).toNat = M + 1 by omega, Int.toNat_natCast]
      · rw [if_neg (by omega), cho_gt _ _ (by omega)]; rfl] at this
    exact this)
  have hlen := chos_len (M + 1)
  have T1 := Lib.hid (fun (v : Value) W hW (hs : SlS W v (chos (M + 1) (M + 1 + 1))) => show Calls Tryd.prog 10 #[v] W (Ret W (ans2 (Lib.itoa (2 ^ (M + 1)), 0))) from by
    have := wTotal_c (chos (M + 1) (M + 1 + 1)) W hW hs (by rw [hlen]; omega) (by
      intro l hl
      have h1 := chos_chk (m := M + 1) (i := M + 1 + 1) (by omega) l hl
      have h2 := (ok_text h1).2
      have h3 := lng_txt h2
      rwa [(ok_text h1).1] at h3)
    rwa [chos_tot (by omega)] at this)
  have p1 := fun W hW => wPow_c [50] ((M + 1 : Nat) : Int) W hW (by decide)
  rw [two_pow (by omega)] at p1
  rw [show ((M + 1 : Nat) : Int) = 1 + (M : Int) by omega] at p1
  have P1 := Lib.hid p1
  have x1 := fun W hW => wBinomial_c (1 + (M : Int)) (J : Int) W hW
  rw [bino_is (by omega) (by omega)] at x1
  have hM0 : 1 + (M : Int) - 1 = (M : Int) := by omega
  have y1 : ∀ W, Good W → Calls Tryd.prog 9 #[.int .i64 (1 + (M : Int) - 1), .int .i64 (J : Int)] W (Ret W (ans2 (Lib.itoa (choi (M : Int) (J : Int)), 0))) := fun W hW => by
    have := wBinomial_c (1 + (M : Int) - 1) (J : Int) W hW
    rwa [bino_is (by omega) (by omega), show choi (1 + (M : Int) - 1) (J : Int) = choi (M : Int) (J : Int) by rw [hM0]] at this
  have z1 : ∀ W, Good W → Calls Tryd.prog 9 #[.int .i64 (1 + (M : Int) - 1), .int .i64 ((J : Int) - 1)] W (Ret W (ans2 (Lib.itoa (choi (M : Int) ((J : Int) - 1)), 0))) := fun W hW => by
    have := wBinomial_c (1 + (M : Int) - 1) ((J : Int) - 1) W hW
    rwa [bino_is (by omega) (by omega), show choi (1 + (M : Int) - 1) ((J : Int) - 1) = choi (M : Int) ((J : Int) - 1) by rw [hM0]] at this
  clear hM0
  have w1 := fun W hW => wBinomial_c (1 + (M : Int)) (1 + (M : Int) - (J : Int)) W hW
  rw [bino_is (by omega) (by omega), choi_sym (by omega)] at w1
  have lc : ∀ m j : Int, 0 ≤ m → m ≤ 60 → lng (choi m j) ≤ 19 := fun m j h0 h1 => lng_i64 (by have := @choi_bd m j; omega) (by have := @choi_bd m j; have := pow60 (m := m.toNat) (by omega); omega)
  have pas := choi_pascal (m := M) (j := (J : Int)) (by omega)
  have a1 := fun W hW => addI (choi (M : Int) (J : Int)) (choi (M : Int) ((J : Int) - 1)) W hW (by have := lc M J (by omega) (by omega); omega) (by have := lc M ((J : Int) - 1) (by omega) (by omega); omega) (by rw [← pas]; have := lc (1 + M) J (by omega) (by omega); omega)
  rw [← pas] at a1
  have X1 := Lib.hid x1; have Y1 := Lib.hid y1; have Z1 := Lib.hid z1; have W1 := Lib.hid w1; have A1 := Lib.hid a1
  obtain ⟨R, hR⟩ : ∃ R : Nat, (1 + M) % 7 = R := ⟨_, rfl⟩
  have hR1 : (1 + (M : Int)) % 7 = (R : Int) := by omega
  have hRb : R ≤ 6 := by omega
  have lp : ∀ q : Nat, q ≤ 66 → lng (x ^ q) ≤ 793 := fun q hq => by
    have h1 := lng_pow hx q
    have h2 : 12 * q ≤ 12 * 66 := Nat.mul_le_mul_left _ hq
    omega
  have pw : ∀ (q : Nat) W, Good W → q ≤ 66 → Calls Tryd.prog 11 #[.string ⟨(Lib.itoa x).toArray⟩, .int .i64 (q : Int)] W (Ret W (ans2 (Lib.itoa (x ^ q), 0))) := fun q W hW hq => by
    have := wPow_c (Lib.itoa x) (q : Int) W hW (txt_ok (by omega))
    rw [un1_itoa _ (lng_big2 (by omega))] at this
    unfold pow2 at this
    rw [if_neg (by omega), Int.toNat_natCast, kept_lng (by have := lp q hq; omega)] at this
    exact this
  have u1 := fun W hW => pw (M + 1) W hW (by omega)
  rw [show ((M + 1 : Nat) : Int) = 1 + (M : Int) by omega] at u1
  have U1 := Lib.hid u1
  have V1 := Lib.hid (fun W hW => pw R W hW (by omega))
  have t1 := fun W hW => pw (M + 1 + R) W hW (by omega)
  rw [show ((M + 1 + R : Nat) : Int) = 1 + (M : Int) + (R : Int) by omega, Int.pow_add] at t1
  have TT := Lib.hid t1
  have M1 := Lib.hid (fun W hW => mulI (x ^ (M + 1)) (x ^ R) W hW (by have := lp (M + 1) (by omega); omega) (by have := lp R (by omega); omega) (by rw [← Int.pow_add]; have := lp (M + 1 + R) (by omega); omega))
  clear h hg hS p1 x1 y1 z1 w1 a1 lc pas lp pw u1 t1 hx hlen hl hM hJ hR
  generalize Lib.itoa (x ^ (M + 1) * x ^ R) = tm at *
  generalize Lib.itoa (x ^ (M + 1)) = tu at *
  generalize Lib.itoa (x ^ R) = tv at *
  generalize Lib.itoa x = tx at *
  generalize Lib.itoa (2 ^ (M + 1)) = t2 at *
  generalize Lib.itoa (choi (1 + (M : Int)) (J : Int)) = tc at *
  generalize Lib.itoa (choi (M : Int) (J : Int)) = ty at *
  generalize Lib.itoa (choi (M : Int) ((J : Int) - 1)) = tz at *
  go_enter Tryd.func3, Tryd.ntmps3
  go_wp2_with fail
  refine (HS.out _ _).mono ?_; rintro e w1 ⟨rfl, hb1⟩
  have hB1 := hb1
  have HOZ := Lib.hid (OwT.zero 22 w1)
  have hB2 := hB1.alloc hB1.size (.cells #[] 22)
  go_wp2_with fail
  clear hM1 hJ1 hn hk hl1 HS
  go_loopw [9, 51] (fun s9 s51 wr => ∃ i : Nat, s51 = .int .i64 (i : Int) ∧ i ≤ M + 2 ∧ Hid (OwT 22 wr w1.heap.size s9 (chos (M + 1) i)) ∧ Below w.heap.size w wr ∧ w1.heap.size ≤ wr.heap.size) (fun _ s51 _ => M + 2 - (intOf s51).toNat)
  case atStart => exact ⟨0, rfl, by omega, HOZ.out, hB2, Nat.le_of_lt (alloc_lt w1 _)⟩
  case round =>
    obtain ⟨i, rfl, hi, hO, hB, hws⟩ := hrel
    by_cases hlt : i < M + 2
    · go_wp2_with fail
      refine (B1.out i _ (HG.out.later hB)).mono ?_; rintro e w4 ⟨rfl, hb4⟩
      have hB4 := hB.trans (hb4.mono hB.size)
      have hO4 := Lib.hid (hO.out.later hb4)
      have hw4 := hb4.size
      have hO5 := (hO4.out).later ((Below.refl _ _).alloc (Nat.le_refl _) (.cells #[txt (Lib.itoa (cho (M + 1) i))] 22))
      have hc5 : (w4.alloc (.cells #[txt (Lib.itoa (cho (M + 1) i))] 22)).cell? ⟨w4.heap.size, 0, none⟩ = some (txt (Lib.itoa (cho (M + 1) i))) := by
        rw [cell_of_row _ _ _ _ _ _ (heap_alloc_new w4 _)]; rfl
      have hsz4 := alloc_lt w4 (.cells #[txt (Lib.itoa (cho (M + 1) i))] 22)
      have hbs : w1.heap.size ≤ (w4.alloc (.cells #[txt (Lib.itoa (cho (M + 1) i))] 22)).heap.size := by omega
      have HBS := Lib.hid hbs
      have HO5 := Lib.hid hO5; have HC5 := Lib.hid hc5
      clear hO5 hc5 hbs
      go_wp2_with (at_builtin; refine wpList_app_txt rfl _ _ 25 22 rfl Tryd.underlying25 info_Int w1.heap.size _ (chos (M + 1) i) rfl HO5.out w4.heap.size (Lib.itoa (cho (M + 1) i)) rfl HC5.out (by rw [chos_len]; omega) HBS.out ?_)
      · intro v' w6 hO6 hb6
        have hB6 := (hB4.alloc hB4.size (.cells #[txt (Lib.itoa (cho (M + 1) i))] 22)).trans (hb6.mono hB1.size)
        rw [← chos_succ] at hO6
        have HO6 := Lib.hid hO6
        have hw6 := hb6.size
        clear hO6
        go_wp2
        go_roundw
        case rel => exact ⟨i + 1, by go_num, by omega, HO6.out, hB6, Nat.le_trans HBS.out hw6⟩
        case measure => simp [intOf]; omega
    · obtain rfl : i = M + 2 := by omega
      have HSL := Lib.hid hO.out.sl
      have hB1 := hB
      clear hO HOZ hb1 hB2 B1 hws hlt hi
      go_wp2_with fail
      ((with_reducible refine (T1.out _ _ (HG.out.later hB1) HSL.out).mono ?_); rintro e w2 ⟨rfl, hb2⟩)
      have hB2 := hB1.trans (hb2.mono hB1.size); clear hb2
      go_wp2_with fail
      ((with_reducible refine (P1.out _ (HG.out.later hB2)).mono ?_); rintro e w3 ⟨rfl, hb3⟩)
      have hB3 := hB2.trans (hb3.mono hB2.size); clear hb3
      go_wp2_with fail
      ((with_reducible refine (X1.out _ (HG.out.later hB3)).mono ?_); rintro e w4 ⟨rfl, hb4⟩)
      have hB4 := hB3.trans (hb4.mono hB3.size); clear hb4
      go_wp2_with fail
      ((with_reducible refine (Y1.out _ (HG.out.later hB4)).mono ?_); rintro e w5 ⟨rfl, hb5⟩)
      have hB5 := hB4.trans (hb5.mono hB4.size); clear hb5
      go_wp2_with fail
      ((with_reducible refine (Z1.out _ (HG.out.later hB5)).mono ?_); rintro e w6 ⟨rfl, hb6⟩)
      have hB6 := hB5.trans (hb6.mono hB5.size); clear hb6
      go_wp2_with fail
      ((with_reducible refine (A1.out _ (HG.out.later hB6)).mono ?_); rintro e w7 ⟨rfl, hb7⟩)
      have hB7 := hB6.trans (hb7.mono hB6.size); clear hb7
      go_wp2_with fail
      ((with_reducible refine (W1.out _ (HG.out.later hB7)).mono ?_); rintro e w8 ⟨rfl, hb8⟩)
      have hB8 := hB7.trans (hb8.mono hB7.size); clear hb8
      go_wp2_with fail
      ((with_reducible refine (U1.out _ (HG.out.later hB8)).mono ?_); rintro e w9 ⟨rfl, hb9⟩)
      have hB9 := hB8.trans (hb9.mono hB8.size); clear hb9
      go_wp2_with fail
      ((with_reducible refine (V1.out _ (HG.out.later hB9)).mono ?_); rintro e w10 ⟨rfl, hb10⟩)
      have hB10 := hB9.trans (hb10.mono hB9.size); clear hb10
      go_wp2_with fail
      ((with_reducible refine (M1.out _ (HG.out.later hB10)).mono ?_); rintro e w11 ⟨rfl, hb11⟩)
      have hB11 := hB10.trans (hb11.mono hB10.size); clear hb11
      go_wp2_with fail
      ((with_reducible refine (TT.out _ (HG.out.later hB11)).mono ?_); rintro e w12 ⟨rfl, hb12⟩)
      have hB12 := hB11.trans (hb12.mono hB11.size); clear hb12
      go_wp2_with fail
      ((with_reducible refine (awake_c _ (HG.out.later hB12)).mono ?_); rintro e w13 ⟨rfl, hb13⟩)
      have hB13 := hB12.trans (hb13.mono hB12.size); clear hb13
      go_wp2
      go_ret
      exact ⟨rfl, hB13⟩

set_option maxRecDepth 100000 in
set_option maxHeartbeats 1000000 in
theorem chooses_c (n k : Int) (a : Txt) (w : World) (hg : Good w) (h0 : 0 ≤ n ∧ n ≤ 255) (h1 : 0 ≤ k ∧ k ≤ 255) (ha : a.length ≤ 140737488355328) :
    Calls Tryd.prog 3 #[.int .u8 n, .int .u8 k, .string ⟨a.toArray⟩] w (Ret w (.bool true)) := by
  obtain ⟨n, rfl⟩ : ∃ m : Nat, n = m := ⟨n.toNat, by omega⟩
  obtain ⟨k, rfl⟩ : ∃ m : Nat, k = m := ⟨k.toNat, by omega⟩
  have HG := Lib.hid hg
  have hS := fun W t => short1 a W ha t
  have n0 : (n : Int) ≤ 255 := by omega
  have k0 : (k : Int) ≤ 255 := by omega
  by_cases hl : 12 < a.length
  · have hl1 : (12 : Int) < (a.length : Int) := by omega
    have hB0 := Below.refl w.heap.size w
    clear hl hg hS h0 h1
    go_enter Tryd.func3, Tryd.ntmps3
    go_wp2_with fail
    refine (awake_c _ (HG.out.later hB0)).mono ?_; rintro e w1 ⟨rfl, hb1⟩
    have hB1 := hB0.trans (hb1.mono hB0.size); clear hb1
    go_wp2
    go_ret
    exact ⟨rfl, hB1⟩
  · by_cases h : allShort [a] = true
    · obtain ⟨x, rfl, hx⟩ := short_int (show shortB a = true by simpa [allShort] using h)
      exact chooses_yes n k x w hg (by omega) (by omega) (by have := lng_itoa_lo x; omega) (by omega) h
    · have hl1 : ¬ (12 : Int) < (a.length : Int) := by omega
      rw [show allShort [a] = false by simpa using h] at hS
      have HS := Lib.hid hS
      clear h hg hS h0 h1 hl
      go_enter Tryd.func3, Tryd.ntmps3
      go_wp2_with fail
      refine (HS.out _ _).mono ?_; rintro e w1 ⟨rfl, hb1⟩
      have hB1 := hb1
      go_wp2_with fail
      refine (awake_c _ (HG.out.later hB1)).mono ?_; rintro e w2 ⟨rfl, hb2⟩
      have hB2 := hB1.trans (hb2.mono hB1.size); clear hb2
      go_wp2
      go_ret
      exact ⟨rfl, hB2⟩
end Go.Proofs.Wk
