/- THE LAW TopSeriesRegistered: the walk. -/
import Derived.Test.YtmbbppiikpfkcaaGreatDoorSeI
namespace Go.Proofs.Wk
open Go.RowKit Mt

theorem infoE : (Tryz.prog.info? 28).map (fun i => (i.zero, i.size, i.bytes)) = some (some (.agg #[.int .i64 0, .string ⟨#[]⟩, .int .i64 0]), 3, 32) := by kernel_rfl
set_option maxRecDepth 100000 in
set_option maxHeartbeats 1000000 in
theorem eqLot_c {v u : Value} (x : Rg.Lt) (w : World) (S : SlX w v [x]) (T : SlX w u [x]) : Calls Tryz.prog 12 #[v, u] w (Ret w (.bool true)) := by
  rcases S with ⟨_, _, _, h⟩ | ⟨b, off, cap, rfl, hR, hb⟩
  · cases h
  rcases T with ⟨_, _, _, h⟩ | ⟨b2, off2, cap2, rfl, hR2, hb2⟩
  · cases h
  obtain ⟨k0, k1, k2, k3, k4, k5, k6⟩ := hR.lot (i := 0) (by simp)
  obtain ⟨l0, l1, l2, l3, l4, l5, l6⟩ := hR2.lot (i := 0) (by simp)
  obtain ⟨a0, a1, a2, a3, a4, a5, a6⟩ := x
  simp only [Nat.zero_mul, Nat.add_zero, List.getElem_cons_zero] at k0 k1 k2 k3 k4 k5 k6 l0 l1 l2 l3 l4 l5 l6
  clear hR hR2 hb hb2
  rw [show ([(⟨a0, a1, a2, a3, a4, a5, a6⟩ : Rg.Lt)] : List Rg.Lt).length = 1 from rfl]
  go_enter Tryz.func12, Tryz.ntmps12
  go_wp2_with fail
  refine wp_loop_rounds 2 ?_
  rw [rounds_succ]
  go_wp2_with fail
  go_region
  all_goals
    go_wp2_with fail
    rw [rounds_succ]
    go_wp2
    go_ret
    exact ⟨rfl, (Below.refl _ _).drew⟩
theorem tr3 {g : Nat} {a b c : World} (h : a.heap.size = g) (h1 : Below g a b) (h2 : Below b.heap.size b c) : Below g a c := h1.trans (h2.mono (h ▸ h1.size))
abbrev limV (lo hi : Int) : Value := .agg #[.int .i64 lo, .int .i64 hi]
set_option maxRecDepth 100000 in
set_option maxHeartbeats 4000000 in
theorem series_no {v : Value} (ls : List Int) (lo hi : Int) (w : World) (hg : Good w) (S : SlX w v ls) (h : plV ls = false ∨ plV ls = true ∧ (hi < lo ∨ ¬ hi < lo ∧ (lo < -9999 ∨ ¬ lo < -9999 ∧ 9999 < hi))) :
    Calls Tryz.prog 3 #[v, limV lo hi] w (Ret w (.bool true)) := by
  have hal := bal w (.cells #[.int .i64 lo, .int .i64 hi] 24)
  have HV := Lib.hid (playValues_c ls _ (S.later hal))
  have HS := Lib.hid (fun W (h : Below w.heap.size w W) => playSeries_c W (hg.later h))
  have HA := Lib.hid hal
  clear hg S hal
  generalize plV ls = p at *
  show Calls Tryz.prog 3 #[v, .agg #[.int .i64 lo, .int .i64 hi]] w (Ret w (.bool true))
  rcases h with rfl | ⟨rfl, h1 | ⟨h1, h2 | ⟨h2, h3⟩⟩⟩
  · obtain ⟨c0, c1⟩ := cell2 (heap_alloc_new w (.cells #[.int .i64 lo, .int .i64 hi] 24))
    go_enter Tryz.func3, Tryz.ntmps3
    go_wp2_with fail
    ((with_reducible refine HV.out.mono ?_); rintro e w' ⟨rfl, rfl⟩)
    go_wp2_with fail
    ((with_reducible refine (HS.out _ HA.out).mono ?_); rintro e w1 ⟨rfl, hb1⟩)
    have HB1 := Lib.hid (HA.out.trans (hb1.mono HA.out.size))
    clear hb1 HA c0 c1
    go_wp2
    go_ret
    exact ⟨rfl, HB1.out⟩
  · have y1 : decide (hi < lo) = true := decide_eq_true (by omega)
    obtain ⟨c0, c1⟩ := cell2 (heap_alloc_new w (.cells #[.int .i64 lo, .int .i64 hi] 24))
    go_enter Tryz.func3, Tryz.ntmps3
    go_wp2_with fail
    ((with_reducible refine HV.out.mono ?_); rintro e w' ⟨rfl, rfl⟩)
    go_wp2_with fail
    ((with_reducible refine (HS.out _ HA.out).mono ?_); rintro e w1 ⟨rfl, hb1⟩)
    have HB1 := Lib.hid (HA.out.trans (hb1.mono HA.out.size))
    clear hb1 HA c0 c1
    go_wp2
    go_ret
    exact ⟨rfl, HB1.out⟩
  · have y1 : decide (hi < lo) = false := decide_eq_false (by omega)
    have y2 : decide (lo < -9999) = true := decide_eq_true (by omega)
    obtain ⟨c0, c1⟩ := cell2 (heap_alloc_new w (.cells #[.int .i64 lo, .int .i64 hi] 24))
    go_enter Tryz.func3, Tryz.ntmps3
    go_wp2_with fail
    ((with_reducible refine HV.out.mono ?_); rintro e w' ⟨rfl, rfl⟩)
    go_wp2_with fail
    ((with_reducible refine (HS.out _ HA.out).mono ?_); rintro e w1 ⟨rfl, hb1⟩)
    have HB1 := Lib.hid (HA.out.trans (hb1.mono HA.out.size))
    clear hb1 HA c0 c1
    go_wp2
    go_ret
    exact ⟨rfl, HB1.out⟩
  · have y1 : decide (hi < lo) = false := decide_eq_false (by omega)
    have y2 : decide (lo < -9999) = false := decide_eq_false (by omega)
    have y3 : decide (9999 < hi) = true := decide_eq_true (by omega)
    obtain ⟨c0, c1⟩ := cell2 (heap_alloc_new w (.cells #[.int .i64 lo, .int .i64 hi] 24))
    go_enter Tryz.func3, Tryz.ntmps3
    go_wp2_with fail
    ((with_reducible refine HV.out.mono ?_); rintro e w' ⟨rfl, rfl⟩)
    go_wp2_with fail
    ((with_reducible refine (HS.out _ HA.out).mono ?_); rintro e w1 ⟨rfl, hb1⟩)
    have HB1 := Lib.hid (HA.out.trans (hb1.mono HA.out.size))
    clear hb1 HA c0 c1
    go_wp2
    go_ret
    exact ⟨rfl, HB1.out⟩
set_option maxRecDepth 100000 in
set_option maxHeartbeats 8000000 in
theorem series_yes {v : Value} (ls : List Int) (lo hi : Int) (w : World) (hg : GoodS w) (S : SlX w v ls) (hp : plV ls = true) (hlh : lo ≤ hi) (hl9 : -9999 ≤ lo) (hh9 : hi ≤ 9999) :
    Calls Tryz.prog 3 #[v, limV lo hi] w (Ret w (.bool true)) := by
  obtain ⟨h2, h16, hv⟩ := far_bd hp
  have hF := ser_f lo hi ls (by omega) h16
  have hbd := Rg.serB_bd lo hi ls
  have HPV := Lib.hid (by have := playValues_c ls _ (S.later (bal w (.cells #[.int .i64 lo, .int .i64 hi] 24))); rwa [hp] at this)
  have HPC := Lib.hid (fun W hW S => playCollected_c (v := v) ls W hW S (by omega) h16 hv)
  have HPR := Lib.hid (fun u ds W hW S hD => Probability_c (v := u) (ls := ls) ds hD lo hi hlh W hW S (by omega) h16 hv)
  have HG := Lib.hid (fun W (h : Below w.heap.size w W) => hg.later h)
  have HPS := Lib.hid (fun W hW => playSeries_c W hW)
  have HEQ := Lib.hid (show Rg.serE lo hi ls = (⟨0, [97], ls.length⟩ :: Rg.serM lo hi ls) ++ [⟨5, [97], 0⟩] from rfl)
  have HSB := Lib.hid (fun i (h : i ≤ ls.length) => (by have := Rg.serB_bd lo hi (ls.take i); rw [List.length_take, Nat.min_eq_left h] at this; exact this : 0 ≤ Rg.serB lo hi (ls.take i) ∧ Rg.serB lo hi (ls.take i) ≤ i))
  have HST := Lib.hid (fun i (h : i < ls.length) => ser_step (lo := lo) (hi := hi) h)
  have HTA := Lib.hid (show ls.take ls.length = ls from List.take_length)
  have HML := Lib.hid (fun i (h : i ≤ ls.length) => (by unfold Rg.serM; rw [List.length_cons, List.length_map, List.length_take, Nat.min_eq_left h] : ((⟨0, [97], ls.length⟩ :: Rg.serM lo hi (ls.take i) : List Rg.En)).length = i + 1))
  rcases S with ⟨a, cap, rfl, rfl⟩ | ⟨b, off, cap, rfl, hR, hb⟩
  · cases h2
  have HBX := Lib.hid (bal w (.cells #[.int .i64 lo, .int .i64 hi] 24))
  have HR3 := Lib.hid (heap_alloc_new w (.cells #[.int .i64 lo, .int .i64 hi] 24))
  have HRX := Lib.hid (hR.later (bal w (.cells #[.int .i64 lo, .int .i64 hi] 24)) hb)
  have HBL := Lib.hid (Nat.lt_of_lt_of_le hb (bal w (.cells #[.int .i64 lo, .int .i64 hi] 24)).size)
  have HGL := Lib.hid (alloc_lt w (.cells #[.int .i64 lo, .int .i64 hi] 24))
  obtain ⟨c0, c1⟩ := cell2 HR3.out
  have y1 : decide (hi < lo) = false := decide_eq_false (by omega)
  have y2 : decide (lo < -9999) = false := decide_eq_false (by omega)
  have y3 : decide (9999 < hi) = false := decide_eq_false (by omega)
  clear hg hp hv hR hb
  show Calls Tryz.prog 3 #[.slice (some ⟨b, off, none⟩) ls.length cap, .agg #[.int .i64 lo, .int .i64 hi]] w (Ret w (.bool true))
  go_enter Tryz.func3, Tryz.ntmps3
  go_wp2_with fail
  ((with_reducible refine HPV.out.mono ?_); rintro e w' ⟨rfl, rfl⟩)
  clear HPV
  go_upto_region 3 with fail
  clear c0 c1
  generalize w.alloc (.cells #[.int .i64 lo, .int .i64 hi] 24) = W1 at *
  generalize hg3 : w.heap.size = g3 at *
  have HG3 := Lib.hid hg3
  clear hg3
  have HFE := Lib.hid (first_en W1 ⟨0, [97], ls.length⟩ 28)
  have HFB := Lib.hid (bal W1 (.cells #[.int .i64 0, .string ⟨#[97]⟩, .int .i64 ls.length] 28))
  go_wp2_with fail
  go_loopw [5, 6, 53] (fun se sb si wr => ∃ i : Nat, si = .int .i64 (i : Int) ∧ i ≤ ls.length ∧ sb = .int .i64 (Rg.serB lo hi (ls.take i)) ∧ Hid (OwX 28 wr W1.heap.size se (⟨0, [97], ls.length⟩ :: Rg.serM lo hi (ls.take i))) ∧ Hid (Below W1.heap.size W1 wr)) (fun _ _ si _ => ls.length - (intOf si).toNat)
  case atStart => exact ⟨0, rfl, Nat.zero_le _, rfl, HFE.out, HFB.out⟩
  case round =>
    obtain ⟨i, rfl, hi0, rfl, hO, hB⟩ := hrel
    clear HFE HFB
    obtain ⟨e0, e1⟩ := cell2 ((hB.out.block g3 HGL.out).trans HR3.out)
    by_cases hlt : i < ls.length
    · have k0 := (HRX.out.later hB.out HBL.out).int hlt
      have hst := HST.out i hlt
      have hsb := HSB.out i hi0
      have HL := Lib.hid (HML.out i hi0)
      clear HPC HPR HPS HEQ HSB HST HTA HML hF hbd
      generalize ls[i] = x at *
      obtain ⟨hs1, hs2⟩ := hst
      have HS1 := Lib.hid hs1
      have HS2 := Lib.hid hs2
      clear hs1 hs2
      have HN2 := Lib.hid (show ((⟨0, [97], ls.length⟩ :: Rg.serM lo hi (ls.take i) : List Rg.En).length + 1) * 32 ≤ 140737488355328 by rw [HL.out]; omega)
      obtain ⟨B0, hB0⟩ : ∃ z, Rg.serB lo hi (ls.take i) = z := ⟨_, rfl⟩
      rw [hB0] at hsb HS2
      rw [hB0]
      clear hB0
      rcases (show x < lo ∨ (¬ x < lo ∧ hi < x) ∨ (¬ x < lo ∧ ¬ hi < x) by omega) with q | q | q
      · have z1 : decide (x < lo) = true := decide_eq_true (by omega)
        have hk : Rg.serK lo hi x = 2 := by unfold Rg.serK; rw [if_pos (by omega)]
        have hs1 := HS1.out
        have hs2 := HS2.out
        rw [hk] at hs1
        rw [if_pos (by omega)] at hs2
        have HQ1 := Lib.hid hs1
        have HQ2 := Lib.hid hs2
        have hw : wrap64 (B0 + 1) = B0 + 1 := by unfold wrap64; omega
        have HO2 := Lib.hid (hO.out.later (bal wr (.cells #[.int .i64 2, .string ⟨#[97]⟩, .int .i64 1] 28)))
        have HA2 := Lib.hid (bal wr (.cells #[.int .i64 2, .string ⟨#[97]⟩, .int .i64 1] 28))
        clear hk hs1 hs2 HS1 HS2 q hO
        go_wp2_with (first
          | (at_builtin; refine wpList_app_row (by rfl) _ _ 29 28 (by rfl) Tryz.underlying29 (.agg #[.int .i64 0, .string ⟨#[]⟩, .int .i64 0]) 32 (by decide) infoE rfl W1.heap.size _ (⟨0, [97], ls.length⟩ :: Rg.serM lo hi (ls.take i)) (by rfl) HO2.out wr.heap.size ⟨2, [97], 1⟩ (by rfl) (new_en wr ⟨2, [97], 1⟩ 28) HN2.out (Nat.le_trans hB.out.size HA2.out.size) ?_; intro v' w3 hO3 hb3)
          | fail)
        rw [List.cons_append, HQ1.out] at hO3
        have HO3 := Lib.hid hO3
        have HB3 := Lib.hid ((hB.out.trans (HA2.out.mono hB.out.size)).trans hb3)
        clear hO3 hb3 k0 e0 e1
        go_roundw
        case rel => exact ⟨i + 1, by go_num, by omega, by rw [HQ2.out], HO3.out, HB3.out⟩
        case measure => simp [intOf]; omega
      · have z1 : decide (x < lo) = false := decide_eq_false (by omega)
        have z2 : decide (hi < x) = true := decide_eq_true (by omega)
        have hk : Rg.serK lo hi x = 2 := by unfold Rg.serK; rw [if_pos (by omega)]
        have hs1 := HS1.out
        have hs2 := HS2.out
        rw [hk] at hs1
        rw [if_pos (by omega)] at hs2
        have HQ1 := Lib.hid hs1
        have HQ2 := Lib.hid hs2
        have hw : wrap64 (B0 + 1) = B0 + 1 := by unfold wrap64; omega
        have HO2 := Lib.hid (hO.out.later (bal wr (.cells #[.int .i64 2, .string ⟨#[97]⟩, .int .i64 1] 28)))
        have HA2 := Lib.hid (bal wr (.cells #[.int .i64 2, .string ⟨#[97]⟩, .int .i64 1] 28))
        clear hk hs1 hs2 HS1 HS2 q hO
        go_wp2_with (first
          | (at_builtin; refine wpList_app_row (by rfl) _ _ 29 28 (by rfl) Tryz.underlying29 (.agg #[.int .i64 0, .string ⟨#[]⟩, .int .i64 0]) 32 (by decide) infoE rfl W1.heap.size _ (⟨0, [97], ls.length⟩ :: Rg.serM lo hi (ls.take i)) (by rfl) HO2.out wr.heap.size ⟨2, [97], 1⟩ (by rfl) (new_en wr ⟨2, [97], 1⟩ 28) HN2.out (Nat.le_trans hB.out.size HA2.out.size) ?_; intro v' w3 hO3 hb3)
          | fail)
        rw [List.cons_append, HQ1.out] at hO3
        have HO3 := Lib.hid hO3
        have HB3 := Lib.hid ((hB.out.trans (HA2.out.mono hB.out.size)).trans hb3)
        clear hO3 hb3 k0 e0 e1
        go_roundw
        case rel => exact ⟨i + 1, by go_num, by omega, by rw [HQ2.out], HO3.out, HB3.out⟩
        case measure => simp [intOf]; omega
      · have z1 : decide (x < lo) = false := decide_eq_false (by omega)
        have z2 : decide (hi < x) = false := decide_eq_false (by omega)
        have hk : Rg.serK lo hi x = 1 := by unfold Rg.serK; rw [if_neg (by omega)]
        have hs1 := HS1.out
        have hs2 := HS2.out
        rw [hk] at hs1
        rw [if_neg (by omega)] at hs2
        have HQ1 := Lib.hid hs1
        have HQ2 := Lib.hid hs2
        have hw : wrap64 (B0 + 1) = B0 + 1 := by unfold wrap64; omega
        have HO2 := Lib.hid (hO.out.later (bal wr (.cells #[.int .i64 1, .string ⟨#[97]⟩, .int .i64 1] 28)))
        have HA2 := Lib.hid (bal wr (.cells #[.int .i64 1, .string ⟨#[97]⟩, .int .i64 1] 28))
        clear hk hs1 hs2 HS1 HS2 q hO
        go_wp2_with (first
          | (at_builtin; refine wpList_app_row (by rfl) _ _ 29 28 (by rfl) Tryz.underlying29 (.agg #[.int .i64 0, .string ⟨#[]⟩, .int .i64 0]) 32 (by decide) infoE rfl W1.heap.size _ (⟨0, [97], ls.length⟩ :: Rg.serM lo hi (ls.take i)) (by rfl) HO2.out wr.heap.size ⟨1, [97], 1⟩ (by rfl) (new_en wr ⟨1, [97], 1⟩ 28) HN2.out (Nat.le_trans hB.out.size HA2.out.size) ?_; intro v' w3 hO3 hb3)
          | fail)
        rw [List.cons_append, HQ1.out] at hO3
        have HO3 := Lib.hid hO3
        have HB3 := Lib.hid ((hB.out.trans (HA2.out.mono hB.out.size)).trans hb3)
        clear hO3 hb3 k0 e0 e1
        go_roundw
        case rel => exact ⟨i + 1, by go_num, by omega, by rw [HQ2.out]; rw [Int.add_zero], HO3.out, HB3.out⟩
        case measure => simp [intOf]; omega
    · obtain rfl : i = ls.length := by omega
      rw [HTA.out]
      have hO1 := hO.out
      rw [HTA.out] at hO1
      have HO1 := Lib.hid hO1
      have HB1 := Lib.hid hB.out
      have HBW := Lib.hid (tr3 HG3.out HBX.out hB.out)
      have HSL := Lib.hid (show SlX wr (.slice (some ⟨b, off, none⟩) ls.length cap) ls from .inr ⟨b, off, cap, rfl, HRX.out.later hB.out HBL.out, Nat.lt_of_lt_of_le HBL.out hB.out.size⟩)
      clear hO hO1 hB hlt HTA HST HSB HML
      have HAL := Lib.hid (fun u W S => by have := All_c (v := u) (Rg.serE lo hi ls) W S (by have := hF.few; omega) hF.lot; rwa [hF.all] at this)
      have HUS := Lib.hid (fun u W hW S => by have := Usable_c (v := u) [Rg.serL ls.length (ls.length - Rg.serB lo hi ls) (Rg.serB lo hi ls) 0 1] [97] W hW S (by simp [Rg.serL]) (by decide); rwa [hF.use] at this)
      have HJO := Lib.hid (fun u W hW S => by have := Journal_c (v := u) (Rg.serE lo hi ls) W hW S (by have := hF.few; omega) hF.lot (.inl hF.few); rwa [hF.jrn] at this)
      have HLO := Lib.hid (fun W hW => by have := Load_c (Rg.linesF 1 (Rg.serE lo hi ls)) W hW (by have := hF.len; omega); rwa [hF.lod] at this)
      have HDO := Lib.hid (fun u g b c s k n W S => Do_c (v := u) [Rg.serL ls.length g b c s] ⟨k, [97], n⟩ W S (by simp [Rg.serL]) (by simp))
      have HU2 := Lib.hid (fun u g b c s W hW S => Usable_c (v := u) [Rg.serL ls.length g b c s] [97] W hW S (by simp [Rg.serL]) (by decide))
      have HNO := Lib.hid hF.no
      have HYE := Lib.hid hF.yes
      have hfew := hF.few
      have HLQ := Lib.hid (show ((⟨0, [97], ls.length⟩ :: Rg.serM lo hi ls : List Rg.En).length + 1) * 32 ≤ 140737488355328 by unfold Rg.serM; rw [List.length_cons, List.length_map]; omega)
      clear hF
      generalize Rg.linesF 1 (Rg.serE lo hi ls) = LT at *
      generalize shT lo hi ls = TT at *
      obtain ⟨es, hes⟩ : ∃ es, Rg.serE lo hi ls = es := ⟨_, rfl⟩
      rw [hes] at HEQ HAL HJO HLO hfew
      clear hes
      generalize Rg.serB lo hi ls = bd at *
      obtain ⟨gd, hgd⟩ : ∃ z, (ls.length : Int) - bd = z := ⟨_, rfl⟩
      rw [hgd] at HAL HUS HLO HNO HYE
      clear hgd
      obtain ⟨M, hM⟩ : ∃ M, (⟨0, [97], ls.length⟩ :: Rg.serM lo hi ls : List Rg.En) = M := ⟨_, rfl⟩
      rw [hM] at HO1 HEQ HLQ
      clear hM
      clear e0 e1
      go_wp2_with fail
      ((with_reducible refine (HPC.out _ (HG.out _ HBW.out).g HSL.out).mono ?_); rintro e w2 ⟨v2, ds, rfl, hS2, hD2, hb2⟩)
      have HB2 := Lib.hid (tr3 HG3.out HBW.out hb2)
      have HW2 := Lib.hid (HB1.out.trans (hb2.mono HB1.out.size))
      have HO2 := Lib.hid (HO1.out.later hb2)
      have HS2 := Lib.hid hS2
      have HD2 := Lib.hid hD2
      obtain ⟨e0, e1⟩ := cell2 ((HW2.out.block g3 HGL.out).trans HR3.out)
      clear hb2 hS2 hD2 HPC HSL HBW HB1 HO1
      go_wp2_with fail
      ((with_reducible refine (HPR.out _ _ _ (HG.out _ HB2.out).g HS2.out HD2.out).mono ?_); rintro e w3 ⟨rfl, hb3⟩)
      have HB3 := Lib.hid (tr3 HG3.out HB2.out hb3)
      have HO3 := Lib.hid ((HO2.out.later hb3).later (bal w3 (.cells #[.int .i64 5, .string ⟨#[97]⟩, .int .i64 0] 28)))
      have HA3 := Lib.hid (bal w3 (.cells #[.int .i64 5, .string ⟨#[97]⟩, .int .i64 0] 28))
      have HZ3 := Lib.hid (Nat.le_trans HW2.out.size hb3.size)
      clear hb3 HPR e0 e1 HO2 HS2 HD2
      go_wp2_with (first
        | (at_builtin; refine wpList_app_row (by rfl) _ _ 29 28 (by rfl) Tryz.underlying29 (.agg #[.int .i64 0, .string ⟨#[]⟩, .int .i64 0]) 32 (by decide) infoE rfl W1.heap.size _ M (by rfl) HO3.out w3.heap.size ⟨5, [97], 0⟩ (by rfl) (new_en w3 ⟨5, [97], 0⟩ 28) HLQ.out (Nat.le_trans HZ3.out HA3.out.size) ?_; intro v4 w4 hO4 hb4)
        | fail)
      rw [← HEQ.out] at hO4
      have HB4 := Lib.hid ((tr3 HG3.out HB3.out HA3.out).trans (hb4.mono (HG3.out ▸ HBX.out.size)))
      have hS4 := hO4.sl
      obtain ⟨a4, c4, rfl⟩ := hS4.hdr
      have HS4 := Lib.hid hS4
      clear hO4 hS4 hb4 HO3 HA3 HZ3 HLQ HEQ
      ((with_reducible refine (HAL.out _ _ HS4.out).mono ?_); rintro e w5 ⟨v5, rfl, hS5, hb5⟩)
      have HB5 := Lib.hid (tr3 HG3.out HB4.out hb5)
      have HE5 := Lib.hid (HS4.out.later hb5)
      have HS5 := Lib.hid hS5
      clear hS5 hb5 HAL HS4
      simp only
      go_wp2_with fail
      ((with_reducible refine (HUS.out _ _ (HG.out _ HB5.out).g HS5.out).mono ?_); rintro e w6 ⟨rfl, hb6⟩)
      have HB6 := Lib.hid (tr3 HG3.out HB5.out hb6)
      have HE6 := Lib.hid (HE5.out.later hb6)
      have HS6 := Lib.hid (HS5.out.later hb6)
      clear hb6 HUS HE5 HS5
      go_wp2_with fail
      ((with_reducible refine (HJO.out _ _ (HG.out _ HB6.out).g HE6.out).mono ?_); rintro e w7 ⟨rfl, hb7⟩)
      have HB7 := Lib.hid (tr3 HG3.out HB6.out hb7)
      have HS7 := Lib.hid (HS6.out.later hb7)
      clear hb7 HJO HE6 HS6
      go_wp2_with fail
      ((with_reducible refine (HLO.out _ (HG.out _ HB7.out)).mono ?_); rintro e w8 ⟨v8, rfl, hS8, hb8⟩)
      have HB8 := Lib.hid (tr3 HG3.out HB7.out hb8)
      have HS8 := Lib.hid (HS7.out.later hb8)
      have HT8 := Lib.hid hS8
      clear hb8 hS8 HLO HS7
      simp only
      generalize es.length = L at *
      go_wp2_with fail
      ((with_reducible refine (eqLot_c _ _ HT8.out HS8.out).mono ?_); rintro e w9 ⟨rfl, hb9⟩)
      have HB9 := Lib.hid (tr3 HG3.out HB8.out hb9)
      have HS9 := Lib.hid (HS8.out.later hb9)
      clear hb9 HT8 HS8
      by_cases hb0 : bd = 0
      · subst hb0
        obtain ⟨n1, n2⟩ := HYE.out (by trivial)
        have HD6 := Lib.hid (fun u W S => by have := HDO.out u gd 0 0 1 6 0 W S; rwa [n1] at this)
        have HU6 := Lib.hid (fun u W hW S => by have := HU2.out u gd 0 0 2 W hW S; rwa [n2] at this)
        clear n1 n2 HYE HNO HDO HU2
        go_wp2_with fail
        ((with_reducible refine (HD6.out _ _ HS9.out).mono ?_); rintro e w10 ⟨v10, rfl, hS10, hb10⟩)
        have HB10 := Lib.hid (tr3 HG3.out HB9.out hb10)
        have HS10 := Lib.hid hS10
        clear hS10 hb10 HS9
        simp only
        go_wp2_with fail
        ((with_reducible refine (HU6.out _ _ (HG.out _ HB10.out).g HS10.out).mono ?_); rintro e w11 ⟨rfl, hb11⟩)
        have HB11 := Lib.hid (tr3 HG3.out HB10.out hb11)
        clear hb11 HS10
        go_wp2_with fail
        ((with_reducible refine (HPS.out _ (HG.out _ HB11.out).g).mono ?_); rintro e w12 ⟨rfl, hb12⟩)
        have HB12 := Lib.hid (tr3 HG3.out HB11.out hb12)
        clear hb12
        go_wp2
        go_ret
        exact ⟨rfl, HG3.out ▸ HB12.out⟩
      · have hpos : 0 < bd := by omega
        have z1 : decide (0 < bd) = true := decide_eq_true hpos
        obtain ⟨n1, n2, n3, n4⟩ := HNO.out hpos
        have HD6 := Lib.hid (fun u W S => by have := HDO.out u gd bd 0 1 6 0 W S; rwa [n1] at this)
        have HD7 := Lib.hid (fun u W S => by have := HDO.out u gd bd 0 1 3 bd W S; rwa [n2] at this)
        have HD8 := Lib.hid (fun u W S => by have := HDO.out u gd 0 bd 1 6 0 W S; rwa [n3] at this)
        have HU6 := Lib.hid (fun u W hW S => by have := HU2.out u gd 0 bd 2 W hW S; rwa [n4] at this)
        clear n1 n2 n3 n4 HYE HNO HDO HU2 hb0
        go_wp2_with fail
        ((with_reducible refine (HD6.out _ _ HS9.out).mono ?_); rintro e w10 ⟨v10, rfl, -, hb10⟩)
        have HB10 := Lib.hid (tr3 HG3.out HB9.out hb10)
        have HS10 := Lib.hid (HS9.out.later hb10)
        clear hb10 HS9
        simp only
        go_wp2_with fail
        ((with_reducible refine (HD7.out _ _ HS10.out).mono ?_); rintro e w11 ⟨v11, rfl, hS11, hb11⟩)
        have HB11 := Lib.hid (tr3 HG3.out HB10.out hb11)
        have HS11 := Lib.hid hS11
        clear hS11 hb11 HS10
        simp only
        go_wp2_with fail
        ((with_reducible refine (HD8.out _ _ HS11.out).mono ?_); rintro e w12 ⟨v12, rfl, hS12, hb12⟩)
        have HB12 := Lib.hid (tr3 HG3.out HB11.out hb12)
        have HS12 := Lib.hid hS12
        clear hS12 hb12 HS11
        simp only
        go_wp2_with fail
        ((with_reducible refine (HU6.out _ _ (HG.out _ HB12.out).g HS12.out).mono ?_); rintro e w13 ⟨rfl, hb13⟩)
        have HB13 := Lib.hid (tr3 HG3.out HB12.out hb13)
        clear hb13 HS12
        go_wp2_with fail
        ((with_reducible refine (HPS.out _ (HG.out _ HB13.out).g).mono ?_); rintro e w14 ⟨rfl, hb14⟩)
        have HB14 := Lib.hid (tr3 HG3.out HB13.out hb14)
        clear hb14
        go_wp2
        go_ret
        exact ⟨rfl, HG3.out ▸ HB14.out⟩
theorem series_c {v : Value} (ls : List Int) (lo hi : Int) (w : World) (hg : GoodS w) (S : SlX w v ls) : Calls Tryz.prog 3 #[v, limV lo hi] w (Ret w (.bool true)) := by
  by_cases hp : plV ls = true
  · by_cases h1 : hi < lo
    · exact series_no ls lo hi w hg.g S (.inr ⟨hp, .inl h1⟩)
    · by_cases h2 : lo < -9999
      · exact series_no ls lo hi w hg.g S (.inr ⟨hp, .inr ⟨h1, .inl h2⟩⟩)
      · by_cases h3 : 9999 < hi
        · exact series_no ls lo hi w hg.g S (.inr ⟨hp, .inr ⟨h1, .inr ⟨h2, h3⟩⟩⟩)
        · exact series_yes ls lo hi w hg S hp (by omega) (by omega) (by omega)
  · exact series_no ls lo hi w hg.g S (.inl (by simpa using hp))
end Go.Proofs.Wk
