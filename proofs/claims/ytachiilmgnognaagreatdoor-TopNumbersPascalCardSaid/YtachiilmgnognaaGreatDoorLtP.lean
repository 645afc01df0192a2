/- THE LAW TopNumbersPascal: it returns true at all numbers. -/
import Derived.Test.YtachiilmgnognaaGreatDoorL2A
import Derived.Test.YtachiilmgnognaaGreatDoorGL
import Derived.Test.YtachiilmgnognaaGreatDoorGI
namespace Go.Proofs.Wk
open Go.RowKit Mt

/-- The texts of the first binomials of m. -/
def chos (m i : Nat) : List Txt := (List.range i).map fun k => Lib.itoa (cho m k)
theorem chos_succ (m i : Nat) : chos m (i + 1) = chos m i ++ [Lib.itoa (cho m i)] := by unfold chos; rw [List.range_succ, List.map_append]; rfl
theorem chos_len (m i : Nat) : (chos m i).length = i := by simp [chos]
theorem chos_val (m i : Nat) : ((chos m i).map val).sum = (choSum m i : Int) := by
  unfold chos choSum
  rw [List.map_map]
  have : (val ∘ fun k => Lib.itoa (cho m k)) = fun k => (cho m k : Int) := by funext k; exact val_itoa _
  rw [this]
  induction i with
  | zero => rfl
  | succ i ih => rw [List.range_succ, List.map_append, List.map_append, List.sum_append, List.sum_append, ih]; simp
theorem kept_cho {m k : Nat} (h : m ≤ 60) : kept (cho m k : Int) = (Lib.itoa (cho m k), 0) := by
  have h1 := cho_le_pow m k
  have h2 := pow60 h
  have h3 : ((2 ^ m : Nat) : Int) = (2 : Int) ^ m := by simp
  exact kept_small (by omega) (by omega)
theorem kept_choi {m j : Int} (h0 : 0 ≤ m) (h : m ≤ 60) : kept (choi m j) = (Lib.itoa (choi m j), 0) := by
  have h1 := @choi_bd m j
  have h2 := pow60 (m := m.toNat) (by omega)
  exact kept_small (by omega) (by omega)
theorem chos_chk {m i : Nat} (h : m ≤ 60) : ∀ l ∈ chos m i, chk l = 0 := by
  intro l hl
  obtain ⟨k, _, rfl⟩ := List.mem_map.1 hl
  have h1 := kept_chk (cho m k : Int)
  rw [kept_cho h] at h1
  by_cases hc : chk (Lib.itoa (cho m k : Int)) = 0
  · exact hc
  · rw [if_neg hc] at h1
    exact (Prod.mk.inj h1).2.symm
theorem firstErr_all : ∀ {ls : List Txt}, (∀ l ∈ ls, chk l = 0) → firstErr ls = 0
  | [], _ => rfl
  | a :: t, h => by unfold firstErr; rw [if_pos (h a (by simp))]; exact firstErr_all fun l hl => h l (by simp [hl])
theorem chos_tot {m : Nat} (h : m ≤ 60) : tot2 (chos m (m + 1)) = (Lib.itoa (2 ^ m), 0) := by
  unfold tot2
  rw [chos_len, if_neg (by omega), if_pos (firstErr_all (chos_chk h)), chos_val, choSum_all]
  rw [show ((2 ^ m : Nat) : Int) = (2 : Int) ^ m by simp]
  have := pow60 h
  have h0 : (0 : Int) ≤ 2 ^ m := Int.le_of_lt (Int.pow_pos (by omega))
  exact kept_small (by omega) (by omega)
theorem two_pow {m : Nat} (h : m ≤ 60) : un1 (pow2 (m : Int)) [50] = (Lib.itoa (2 ^ m), 0) := by
  rw [show un1 (pow2 (m : Int)) [50] = pow2 (m : Int) 2 from rfl]
  unfold pow2
  rw [if_neg (by omega), Int.toNat_natCast]
  have := pow60 h
  have h0 : (0 : Int) ≤ 2 ^ m := Int.le_of_lt (Int.pow_pos (by omega))
  exact kept_small (by omega) (by omega)
theorem bino_is {m j : Int} (h0 : 0 ≤ m) (h : m ≤ 60) : bino m j = (Lib.itoa (choi m j), 0) := by
  rw [bino_ok (by omega), kept_choi h0 h]
theorem info_Int : (Tryz.prog.info? 43).map (fun i => (i.zero, i.size, i.bytes)) = some (some (.string ⟨#[]⟩), 1, 16) := by kernel_rfl

theorem pascal_ratio {m i : Nat} (h : i ≤ m) : makQ (choi (m : Int) ((i : Int) + 1)) (choi (m : Int) (i : Int)) = (rtoa (Rat.divInt ((m : Int) - i) ((i : Int) + 1)), 0) := by
  have h1 : choi (m : Int) (i : Int) = (cho m i : Int) := choi_nat h
  have h2 : choi (m : Int) ((i : Int) + 1) = (cho m (i + 1) : Int) := by
    by_cases hi : i + 1 ≤ m
    · exact choi_nat (n := m) (k := i + 1) hi
    · rw [choi_out (by omega), cho_gt m (i + 1) (by omega)]; rfl
  have h3 := cho_pos h
  have h4 := cho_step m i
  rw [h1, h2]
  unfold makQ
  rw [if_neg (by omega)]
  congr 2
  rw [Rat.divInt_eq_divInt_iff (by omega) (by omega)]
  have h5 : ((cho m (i + 1) * (i + 1) : Nat) : Int) = ((cho m i * (m - i) : Nat) : Int) := by rw [h4]
  rw [Int.natCast_mul, Int.natCast_mul, Int.ofNat_sub h] at h5
  rw [show ((i + 1 : Nat) : Int) = (i : Int) + 1 by omega] at h5
  rw [h5, Int.mul_comm]
set_option maxRecDepth 100000 in
theorem play_c (w : World) (hg : Good w) : Calls Tryz.prog 60 #[] w (Ret w (.bool true)) := by
  have HG := Lib.hid hg
  have hB0 := Below.refl w.heap.size w
  have a1 := fun W hW => qAdd_c [49, 47, 49, 52] [49, 47, 50, 49] W hW (by decide) (by decide)
  rw [lit_add (c := [53, 47, 52, 50]) (by decide +kernel) (by decide +kernel) (by decide +kernel) (by decide) (by decide +kernel)] at a1
  have A1 := Lib.hid a1
  clear a1 hg
  go_enter Tryz.func60, Tryz.ntmps60
  go_wp2_with fail
  ((with_reducible refine (A1.out _ (HG.out.later hB0)).mono ?_); rintro e w1 ⟨rfl, hb1⟩)
  have hB1 := hB0.trans (hb1.mono hB0.size); clear hb1
  go_wp2
  go_ret
  exact ⟨rfl, hB1⟩
set_option maxRecDepth 100000 in
set_option maxHeartbeats 8000000 in
theorem pascal_n (n k : Nat) (w : World) (hg : Good w) (hn : n ≤ 255) (hk : k ≤ 255) : Calls Tryz.prog 10 #[.int .u8 (n : Int), .int .u8 (k : Int)] w (Ret w (.bool true)) := by
  have HG := Lib.hid hg
  obtain ⟨M, hM⟩ : ∃ M : Nat, n % 60 = M := ⟨_, rfl⟩
  obtain ⟨J, hJ⟩ : ∃ J : Nat, k % (M + 1) = J := ⟨_, rfl⟩
  have hM1 : (n : Int) % 60 = (M : Int) := by omega
  have hM2 : ((n : Int) % 60).toNat = M := by omega
  have hJ1 : (k : Int) % ((M : Int) + 1) = (J : Int) := by rw [← hJ, Int.natCast_emod]; rfl
  have hJ2 : (k : Int).tmod ((M : Int) + 1) = (J : Int) := by rw [Int.tmod_eq_emod_of_nonneg (by omega)]; exact hJ1
  have hM3 : (n : Int).tmod 60 = (M : Int) := by rw [Int.tmod_eq_emod_of_nonneg (by omega)]; exact hM1
  have hMb : M ≤ 59 := by omega
  have hJb : J ≤ M := by have := Nat.mod_lt k (show 0 < M + 1 by omega); omega
  have B1 := Lib.hid (fun (i : Nat) W hW (hi : i ≤ M) => show Calls Tryz.prog 56 #[.int .i64 (M : Int), .int .i64 (i : Int)] W (Ret W (ans2 (Lib.itoa (cho M i), 0))) from by
    have := wBinomial_c (M : Int) (i : Int) W hW
    rw [bino_is (by omega) (by omega), choi_nat hi] at this
    exact this)
  have hlen := chos_len M
  have T1 := Lib.hid (fun (v : Value) W hW (hs : SlS W v (chos M (M + 1))) => show Calls Tryz.prog 58 #[v] W (Ret W (ans2 (Lib.itoa (2 ^ M), 0))) from by
    have := wTotal_c (chos M (M + 1)) W hW hs (by rw [hlen]; omega) (by
      intro l hl
      have h1 := chos_chk (m := M) (i := M + 1) (by omega) l hl
      have h2 := (ok_text h1).2
      have h3 := lng_txt h2
      rwa [(ok_text h1).1] at h3)
    rwa [chos_tot (by omega)] at this)
  have p1 := fun W hW => wPow_c [50] (M : Int) W hW (by decide)
  rw [two_pow (by omega)] at p1
  have P1 := Lib.hid p1
  have x1 := fun W hW => wBinomial_c (M : Int) (J : Int) W hW
  rw [bino_is (by omega) (by omega)] at x1
  have y1 := fun W hW => wBinomial_c (M : Int) ((J : Int) + 1) W hW
  rw [bino_is (by omega) (by omega)] at y1
  have lc : ∀ j : Int, lng (choi (M : Int) j) ≤ 19 := fun j => lng_i64 (by have := @choi_bd (M : Int) j; omega) (by have := @choi_bd (M : Int) j; have := pow60 (m := (M : Int).toNat) (by omega); omega)
  have z1 := fun W hW => qMake_c (Lib.itoa (choi (M : Int) ((J : Int) + 1))) (Lib.itoa (choi (M : Int) (J : Int))) W hW (txt_ok (by have := lc ((J : Int) + 1); omega)) (txt_ok (by have := lc (J : Int); omega))
  rw [mk2_itoa (lng_big2 (by have := lc ((J : Int) + 1); omega)) (lng_big2 (by have := lc (J : Int); omega)), pascal_ratio hJb] at z1
  have O1 := Lib.hid (fun W => Over_q ((M : Int) - J) ((J : Int) + 1) W (by omega) (by omega) (by omega) (by omega) (by omega))
  have X1 := Lib.hid x1; have Y1 := Lib.hid y1; have Z1 := Lib.hid z1
  have k1 : IntKind.i64.wrap ((M : Int) - (J : Int)) = (M : Int) - (J : Int) := IntWalk.i64_in _ (by omega)
  have k2 : IntKind.i64.wrap ((J : Int) + 1) = (J : Int) + 1 := IntWalk.i64_in _ (by omega)
  have k3 : IntKind.i64.wrap ((M : Int) + 1) = (M : Int) + 1 := IntWalk.i64_in _ (by omega)
  have k5 : IntKind.i64.wrap (M : Int) = (M : Int) := IntWalk.i64_in _ (by omega)
  have k6 : IntKind.i64.wrap (k : Int) = (k : Int) := IntWalk.i64_in _ (by omega)
  have k7 : IntKind.i64.wrap (J : Int) = (J : Int) := IntWalk.i64_in _ (by omega)
  clear hg p1 x1 y1 z1 lc hlen hM hJ
  generalize rtoa (Rat.divInt ((M : Int) - J) ((J : Int) + 1)) = tq at *
  generalize Lib.itoa (choi (M : Int) ((J : Int) + 1)) = ty at *
  generalize Lib.itoa (choi (M : Int) (J : Int)) = tx at *
  generalize Lib.itoa (2 ^ M) = t2 at *
  have hB0 := Below.refl w.heap.size w
  go_enter Tryz.func10, Tryz.ntmps10
  go_wp2_with fail
  ((with_reducible refine (X1.out _ (HG.out.later hB0)).mono ?_); rintro e w1 ⟨rfl, hb1⟩)
  have hB1 := hB0.trans (hb1.mono hB0.size); clear hb1
  go_wp2_with fail
  ((with_reducible refine (Y1.out _ (HG.out.later hB1)).mono ?_); rintro e w2 ⟨rfl, hb2⟩)
  have hB2 := hB1.trans (hb2.mono hB1.size); clear hb2
  go_wp2_with fail
  ((with_reducible refine (Z1.out _ (HG.out.later hB2)).mono ?_); rintro e w3 ⟨rfl, hb3⟩)
  have hB3 := hB2.trans (hb3.mono hB2.size); clear hb3
  go_wp2_with fail
  ((with_reducible refine (O1.out _).mono ?_); rintro e w4 ⟨rfl, hb4⟩)
  have hB4 := hB3.trans (hb4.mono hB3.size); clear hb4
  have HOZ := Lib.hid (OwT.nil 43 w4 w4.heap.size)
  go_wp2_with fail
  clear hM1 hM2 hM3 hJ1 hJ2 hn hk k1 k2 k6 k7 X1 Y1 Z1 O1
  go_loopw [13, 64] (fun s9 s51 wr => ∃ i : Nat, s51 = .int .i64 (i : Int) ∧ i ≤ M + 1 ∧ Hid (OwT 43 wr w4.heap.size s9 (chos M i)) ∧ Below w.heap.size w wr ∧ w4.heap.size ≤ wr.heap.size) (fun _ s51 _ => M + 1 - (intOf s51).toNat)
  case atStart => exact ⟨0, rfl, by omega, HOZ.out, hB4, Nat.le_refl _⟩
  case round =>
    obtain ⟨i, rfl, hi, hO, hB, hws⟩ := hrel
    by_cases hlt : i < M + 1
    · go_wp2_with fail
      refine (B1.out i _ (HG.out.later hB) (by omega)).mono ?_; rintro e w5 ⟨rfl, hb4⟩
      have hB5 := hB.trans (hb4.mono hB.size)
      have hO4 := Lib.hid (hO.out.later hb4)
      have hw4 := hb4.size
      have hO5 := (hO4.out).later ((Below.refl _ _).alloc (Nat.le_refl _) (.cells #[txt (Lib.itoa (cho M i))] 43))
      have hc5 : (w5.alloc (.cells #[txt (Lib.itoa (cho M i))] 43)).cell? ⟨w5.heap.size, 0, none⟩ = some (txt (Lib.itoa (cho M i))) := by
        rw [cell_of_row _ _ _ _ _ _ (heap_alloc_new w5 _)]; rfl
      have hsz4 := alloc_lt w5 (.cells #[txt (Lib.itoa (cho M i))] 43)
      have hbs : w4.heap.size ≤ (w5.alloc (.cells #[txt (Lib.itoa (cho M i))] 43)).heap.size := by omega
      have HBS := Lib.hid hbs
      have HO5 := Lib.hid hO5; have HC5 := Lib.hid hc5
      clear hO5 hc5 hbs
      go_wp2_with (at_builtin; refine wpList_app_txt rfl _ _ 83 43 rfl Tryz.underlying83 info_Int w4.heap.size _ (chos M i) rfl HO5.out w5.heap.size (Lib.itoa (cho M i)) rfl HC5.out (by rw [chos_len]; omega) HBS.out ?_)
      · intro v' w6 hO6 hb6
        have hB6 := (hB5.alloc hB5.size (.cells #[txt (Lib.itoa (cho M i))] 43)).trans (hb6.mono hB4.size)
        rw [← chos_succ] at hO6
        have HO6 := Lib.hid hO6
        have hw6 := hb6.size
        clear hO6
        go_wp2
        go_roundw
        case rel => exact ⟨i + 1, by go_num, by omega, HO6.out, hB6, Nat.le_trans HBS.out hw6⟩
        case measure => simp [intOf]; omega
    · obtain rfl : i = M + 1 := by omega
      have HSL := Lib.hid hO.out.sl
      have hB1 := hB
      clear hO HOZ hB2 hB3 hB4 B1 hws hlt hi
      go_wp2_with fail
      ((with_reducible refine (T1.out _ _ (HG.out.later hB1) HSL.out).mono ?_); rintro e w2 ⟨rfl, hb2⟩)
      have hB2 := hB1.trans (hb2.mono hB1.size); clear hb2
      go_wp2_with fail
      ((with_reducible refine (P1.out _ (HG.out.later hB2)).mono ?_); rintro e w3 ⟨rfl, hb3⟩)
      have hB3 := hB2.trans (hb3.mono hB2.size); clear hb3
      go_wp2_with fail
      ((with_reducible refine (play_c _ (HG.out.later hB3)).mono ?_); rintro e w4 ⟨rfl, hb4⟩)
      have hB4 := hB3.trans (hb4.mono hB3.size); clear hb4
      go_wp2
      go_ret
      exact ⟨rfl, hB4⟩
theorem pascal_c (n k : Int) (w : World) (hg : Good w) (h0 : 0 ≤ n ∧ n ≤ 255) (h1 : 0 ≤ k ∧ k ≤ 255) : Calls Tryz.prog 10 #[.int .u8 n, .int .u8 k] w (Ret w (.bool true)) := by
  obtain ⟨n, rfl⟩ : ∃ m : Nat, n = m := ⟨n.toNat, by omega⟩
  obtain ⟨k, rfl⟩ : ∃ m : Nat, k = m := ⟨k.toNat, by omega⟩
  exact pascal_n n k w hg (by omega) (by omega)
end Go.Proofs.Wk
