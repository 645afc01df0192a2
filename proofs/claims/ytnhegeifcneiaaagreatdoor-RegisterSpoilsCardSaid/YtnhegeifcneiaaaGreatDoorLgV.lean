/- THE LAW RegisterSpoils: the walk. -/
import Derived.Test.YtnhegeifcneiaaaGreatDoorLgU
namespace Go.Proofs.Wk
open Go.RowKit Mt

theorem spoil_nums (n : Int) (l k j : Nat) (hn : 0 ≤ n ∧ n ≤ 65535) (hl : l ≤ 60 * 20) (hk : n.toNat % l = k) (hkl : k < l) (hj : k + 1 = j) :
    n.tmod (l : Int) = (k : Int) ∧ wrap64 n = n ∧ wrap64 (k : Int) = (k : Int) ∧ (0 : Int) ≤ (k : Int) ∧ (k : Int) < (l : Int) ∧ (k : Int) ≤ (l : Int) ∧ wrap64 ((k : Int) + 1) = (j : Int) ∧ (0 : Int) ≤ (j : Int) ∧ (j : Int) ≤ (l : Int) ∧ (l : Int) ≠ 0 := by
  refine ⟨?_, by unfold wrap64; omega, by unfold wrap64; omega, by omega, by omega, by omega, by unfold wrap64; omega, by omega, by omega, by omega⟩
  rw [Int.tmod_eq_emod_of_nonneg hn.1]
  obtain ⟨q, rfl⟩ : ∃ q : Nat, n = q := ⟨n.toNat, by omega⟩
  rw [Int.toNat_natCast] at hk
  rw [← hk]
  rfl
theorem spoil_len (l k j : Nat) (hl : l ≤ 60 * 20) (hkl : k < l) (hj : k + 1 = j) : ¬ (9223372036854775807 < j) ∧ ¬ (9223372036854775807 < j + (l - j)) ∧ ¬ (9223372036854775807 < k + 1) := by
  refine ⟨by omega, by omega, by omega⟩
theorem spoil_ends (L bad pr : Txt) (b : UInt8) (k j : Nat) (hb : List.take k L ++ b :: List.drop j L = bad) (hp : List.take k L = pr) (hl : L.length ≤ 60 * 20) (hk : k < L.length) (hj : k + 1 = j) : bad.length ≤ 600000 ∧ pr.length ≤ 1200 ∧ pr.length ≤ L.length := by
  have h1 : pr.length = k := by rw [← hp, List.length_take]; omega
  have h2 : bad.length = L.length := by rw [← hb, List.length_append, List.length_cons, List.length_take, List.length_drop]; omega
  refine ⟨by omega, by omega, by omega⟩
theorem spoil_last (e p l : Nat) (h : e ≤ p) (hp : p ≤ 1200) (hl : p ≤ l) : wrap64 (e : Int) = (e : Int) ∧ wrap64 ((e : Int) - 1 + 1) = (e : Int) ∧ IntKind.i64.wrap (e : Int) = (e : Int) ∧ IntKind.i64.wrap ((e : Int) - 1 + 1) = (e : Int) ∧ (0 : Int) ≤ (e : Int) ∧ (e : Int) ≤ (l : Int) := by
  have h1 : wrap64 (e : Int) = (e : Int) := by unfold wrap64; omega
  have h2 : IntKind.i64.wrap (e : Int) = (e : Int) := by rw [IntKind.wrap_i64]; omega
  have e1 : (e : Int) - 1 + 1 = (e : Int) := by omega
  refine ⟨h1, by rw [e1]; exact h1, h2, by rw [e1]; exact h2, by omega, by omega⟩
set_option maxRecDepth 100000 in
set_option maxHeartbeats 4000000 in
theorem spoils_out {v : Value} (es : List Rg.En) (n : Int) (b : UInt8) (w : World) (hg : GoodS w) (S : SlX w v es) (hle : es.length * 32 ≤ 140737488355328) (h : 20 < es.length ∨ (¬ 20 < es.length ∧ fewE es = false)) :
    Calls Tryz.prog 7 #[v, .int .u16 n, .int .u8 (b.toNat : Int)] w (Ret w (.bool true)) := by
  have HG := Lib.hid (fun W (hb : Below w.heap.size w W) => hg.later hb)
  have HA := Lib.hid (fun W (hW : GoodS W) => awake_c W hW.g)
  have HE := Lib.hid (fun W S => entries_c (v := v) es W S hle)
  have HF := Lib.hid (fun u W (S : SlX W u es) => Few_g es W S (by omega))
  have HS := Lib.hid S
  have hv : ∃ a c, v = .slice a es.length c := by
    rcases S with ⟨a, c, rfl, rfl⟩ | ⟨b, off, c, rfl, -, -⟩
    · exact ⟨a, c, rfl⟩
    · exact ⟨_, c, rfl⟩
  obtain ⟨a, c, rfl⟩ := hv
  generalize fewE es = f at *
  clear S hg
  rcases h with h1 | ⟨h1, rfl⟩
  · have i1 : (20 : Int) < (es.length : Int) := by omega
    clear h1
    go_enter Tryz.func7, Tryz.ntmps7
    go_wp2_with fail
    ((with_reducible refine (HA.out _ (HG.out _ (Below.refl _ _))).mono ?_); rintro e w1 ⟨rfl, hb1⟩)
    go_wp2
    go_ret
    exact ⟨rfl, hb1⟩
  · have i1 : ¬ (20 : Int) < (es.length : Int) := by omega
    clear h1
    go_enter Tryz.func7, Tryz.ntmps7
    go_wp2_with fail
    ((with_reducible refine (HE.out _ HS.out).mono ?_); rintro e w1 ⟨v1, rfl, s1, b1⟩)
    have B1 := Lib.hid b1
    go_wp2_with fail
    ((with_reducible refine (HF.out _ _ s1).mono ?_); rintro e w2 ⟨rfl, rfl⟩)
    clear b1 s1
    go_wp2_with fail
    ((with_reducible refine (HA.out _ (HG.out _ B1.out)).mono ?_); rintro e w3 ⟨rfl, b3⟩)
    have B3 := Lib.hid (B1.out.trans (b3.mono B1.out.size))
    clear b3
    go_wp2
    go_ret
    exact ⟨rfl, B3.out⟩
set_option maxRecDepth 100000 in
set_option maxHeartbeats 4000000 in
theorem spoils_err {v : Value} (es : List Rg.En) (n : Int) (b : UInt8) (w : World) (hg : GoodS w) (S : SlX w v es) (hle : es.length * 32 ≤ 140737488355328) (hne : ∀ x ∈ es, x.lot.length ≤ 140737488355328) (h20 : es.length ≤ 20) (hf : fewE es = true) (hj : (Rg.journL es).2 ≠ 0 ∨ ((Rg.journL es).2 = 0 ∧ (Rg.journL es).1 = [])) :
    Calls Tryz.prog 7 #[v, .int .u16 n, .int .u8 (b.toNat : Int)] w (Ret w (.bool true)) := by
  have HG := Lib.hid (fun W (hb : Below w.heap.size w W) => hg.later hb)
  have HA := Lib.hid (fun W (hW : GoodS W) => awake_c W hW.g)
  have HE := Lib.hid (fun W S => entries_c (v := v) es W S hle)
  have HF := Lib.hid (fun u W (S : SlX W u es) => by have := Few_g es W S (by omega); rwa [hf] at this)
  have HJ := Lib.hid (fun W (hW : GoodS W) S => Journal_c (v := v) es W hW.g S (by omega) hne (.inl h20))
  have HS := Lib.hid S
  have hv : ∃ a c, v = .slice a es.length c := by
    rcases S with ⟨a, c, rfl, rfl⟩ | ⟨b, off, c, rfl, -, -⟩
    · exact ⟨a, c, rfl⟩
    · exact ⟨_, c, rfl⟩
  obtain ⟨a, c, rfl⟩ := hv
  generalize Rg.journL es = T at *
  obtain ⟨t, tc⟩ := T
  have i1 : ¬ (20 : Int) < (es.length : Int) := by omega
  clear S hg hf h20
  rcases hj with hj | ⟨hj, hj2⟩
  · have y1 : (tc != 0) = true := bne_iff_ne.2 hj
    clear hj
    go_enter Tryz.func7, Tryz.ntmps7
    go_wp2_with fail
    ((with_reducible refine (HE.out _ HS.out).mono ?_); rintro e w1 ⟨v1, rfl, s1, b1⟩)
    have B1 := Lib.hid b1
    have S1 := Lib.hid (HS.out.later b1)
    go_wp2_with fail
    ((with_reducible refine (HF.out _ _ s1).mono ?_); rintro e w2 ⟨rfl, rfl⟩)
    clear b1 s1
    go_wp2_with fail
    ((with_reducible refine (HJ.out _ (HG.out _ B1.out) S1.out).mono ?_); rintro e w3 ⟨rfl, b3⟩)
    have B3 := Lib.hid (B1.out.trans (b3.mono B1.out.size))
    clear b3
    go_wp2_with fail
    ((with_reducible refine (HA.out _ (HG.out _ B3.out)).mono ?_); rintro e w4 ⟨rfl, b4⟩)
    have B4 := Lib.hid (B3.out.trans (b4.mono B3.out.size))
    clear b4
    go_wp2
    go_ret
    exact ⟨rfl, B4.out⟩
  · obtain rfl : tc = 0 := hj
    obtain rfl : t = [] := hj2
    go_enter Tryz.func7, Tryz.ntmps7
    go_wp2_with fail
    ((with_reducible refine (HE.out _ HS.out).mono ?_); rintro e w1 ⟨v1, rfl, s1, b1⟩)
    have B1 := Lib.hid b1
    have S1 := Lib.hid (HS.out.later b1)
    go_wp2_with fail
    ((with_reducible refine (HF.out _ _ s1).mono ?_); rintro e w2 ⟨rfl, rfl⟩)
    clear b1 s1
    go_wp2_with fail
    ((with_reducible refine (HJ.out _ (HG.out _ B1.out) S1.out).mono ?_); rintro e w3 ⟨rfl, b3⟩)
    have B3 := Lib.hid (B1.out.trans (b3.mono B1.out.size))
    clear b3
    go_wp2_with fail
    ((with_reducible refine (HA.out _ (HG.out _ B3.out)).mono ?_); rintro e w4 ⟨rfl, b4⟩)
    have B4 := Lib.hid (B3.out.trans (b4.mono B3.out.size))
    clear b4
    go_wp2
    go_ret
    exact ⟨rfl, B4.out⟩
set_option maxRecDepth 100000 in
set_option maxHeartbeats 8000000 in
theorem spoils_main {v : Value} (es : List Rg.En) (n : Int) (b : UInt8) (w : World) (hg : GoodS w) (S : SlX w v es) (hle : es.length * 32 ≤ 140737488355328) (hne : ∀ x ∈ es, x.lot.length ≤ 140737488355328) (h20 : es.length ≤ 20) (hf : fewE es = true) (hj : (Rg.journL es).2 = 0) (hj2 : (Rg.journL es).1 ≠ []) (hn : 0 ≤ n ∧ n ≤ 65535) :
    Calls Tryz.prog 7 #[v, .int .u16 n, .int .u8 (b.toNat : Int)] w (Ret w (.bool true)) := by
  have ha : (Rg.allL es).2.2 = 0 := by
    unfold Rg.journL at hj
    split at hj
    · rename_i q; exact absurd hj q
    · rename_i q; exact Decidable.not_not.1 q
  have hJL : Rg.journL es = (Rg.linesF 1 es, 0) := by unfold Rg.journL; rw [if_neg (by rw [ha]; simp)]
  rw [hJL] at hj2
  have hll := Rg.lines_le es 1 (Rg.allL_right ha)
  have hpos : 0 < (Rg.linesF 1 es).length := List.length_pos_iff.2 hj2
  obtain ⟨k, hk⟩ : ∃ k : Nat, n.toNat % (Rg.linesF 1 es).length = k := ⟨_, rfl⟩
  have hkl : k < (Rg.linesF 1 es).length := by have := Nat.mod_lt n.toNat hpos; omega
  have hsp := fun h1 h2 h3 => Rg.spoil_load ha h20 hkl (b := b) h1 h2 h3
  have HG := Lib.hid (fun W (hb : Below w.heap.size w W) => hg.later hb)
  have HA := Lib.hid (fun W (hW : GoodS W) => awake_c W hW.g)
  have HE := Lib.hid (fun W S => entries_c (v := v) es W S hle)
  have HF := Lib.hid (fun u W (S : SlX W u es) => by have := Few_g es W S (by omega); rwa [hf] at this)
  have HJ := Lib.hid (fun W (hW : GoodS W) S => by have := Journal_c (v := v) es W hW.g S (by omega) hne (.inl h20); rwa [hJL] at this)
  have i1 : ¬ (20 : Int) < (es.length : Int) := by omega
  have hv : ∃ a c, v = .slice a es.length c := by
    rcases S with ⟨a, c, rfl, rfl⟩ | ⟨b, off, c, rfl, -, -⟩
    · exact ⟨a, c, rfl⟩
    · exact ⟨_, c, rfl⟩
  obtain ⟨a, cp, rfl⟩ := hv
  have HS := Lib.hid S
  obtain ⟨j, hj1⟩ : ∃ j, k + 1 = j := ⟨_, rfl⟩
  have ne : ((Rg.linesF 1 es) == ([] : Txt)) = false := by
    rw [beq_eq_false_iff_ne]; exact hj2
  rw [hj1] at hsp
  generalize Rg.linesF 1 es = L at *
  obtain ⟨dm, wn, wk, k0, k1, k2, wj, j0, j1, dz⟩ := spoil_nums n L.length k j hn (Nat.le_trans hll (Nat.mul_le_mul_left 60 h20)) hk hkl hj1
  obtain ⟨c, hc⟩ : ∃ c, L[k] = c := ⟨_, rfl⟩
  have hix : ∀ W, (Instr.index 9 (.string ⟨L.toArray⟩) (.int .i64 (k : Int))).run Tryz.prog W = .ok (.int .u8 (c.toNat : Int)) W := fun W => by
    rw [run_index_string _ _ _ _ _ Tryz.underlying9, dif_pos ⟨k0, by rw [size_mk]; exact k1⟩]
    have : (⟨L.toArray⟩ : ByteArray)[(k : Int).toNat]'(by rw [size_mk]; exact hkl) = c := by
      rw [← hc]; rfl
    rw [this]
  rw [hc] at hsp
  have HLL := Lib.hid (Nat.le_trans hll (Nat.mul_le_mul_left 60 h20))
  clear ha hJL hj hf hg hle hne hn h20 S hj2 hll hk hpos
  by_cases q1 : c = b
  · have e1 := u8_eq_yes (d := b) rfl q1
    clear hsp q1
    go_enter Tryz.func7, Tryz.ntmps7
    go_wp2_with fail
    ((with_reducible refine (HE.out _ HS.out).mono ?_); rintro e w1 ⟨v1, rfl, s1, b1⟩)
    have B1 := Lib.hid b1
    have S1 := Lib.hid (HS.out.later b1)
    go_wp2_with fail
    ((with_reducible refine (HF.out _ _ s1).mono ?_); rintro e w2 ⟨rfl, rfl⟩)
    clear b1 s1
    go_wp2_with fail
    ((with_reducible refine (HJ.out _ (HG.out _ B1.out) S1.out).mono ?_); rintro e w3 ⟨rfl, b3⟩)
    have B3 := Lib.hid (B1.out.trans (b3.mono B1.out.size))
    clear b3 B1 S1 HE HF HJ HS
    go_wp2_with fail
    ((with_reducible refine (HA.out _ (HG.out _ B3.out)).mono ?_); rintro e w4 ⟨rfl, b4⟩)
    have B4 := Lib.hid (B3.out.trans (b4.mono B3.out.size))
    clear b4
    go_wp2
    go_ret
    exact ⟨rfl, B4.out⟩
  have r1 := u8_eq_no (d := b) rfl q1
  by_cases q2 : c = 10
  · have e2 := u8_eq_yes (d := 10) (k := 10) rfl q2
    clear hsp q1 q2
    go_enter Tryz.func7, Tryz.ntmps7
    go_wp2_with fail
    ((with_reducible refine (HE.out _ HS.out).mono ?_); rintro e w1 ⟨v1, rfl, s1, b1⟩)
    have B1 := Lib.hid b1
    have S1 := Lib.hid (HS.out.later b1)
    go_wp2_with fail
    ((with_reducible refine (HF.out _ _ s1).mono ?_); rintro e w2 ⟨rfl, rfl⟩)
    clear b1 s1
    go_wp2_with fail
    ((with_reducible refine (HJ.out _ (HG.out _ B1.out) S1.out).mono ?_); rintro e w3 ⟨rfl, b3⟩)
    have B3 := Lib.hid (B1.out.trans (b3.mono B1.out.size))
    clear b3 B1 S1 HE HF HJ HS
    go_wp2_with fail
    ((with_reducible refine (HA.out _ (HG.out _ B3.out)).mono ?_); rintro e w4 ⟨rfl, b4⟩)
    have B4 := Lib.hid (B3.out.trans (b4.mono B3.out.size))
    clear b4
    go_wp2
    go_ret
    exact ⟨rfl, B4.out⟩
  have r2 := u8_eq_no (d := 10) (k := 10) rfl q2
  by_cases q3 : b = 10
  · have e3 := u8_eq_yes (d := 10) (k := 10) rfl q3
    clear hsp q1 q2 q3
    go_enter Tryz.func7, Tryz.ntmps7
    go_wp2_with fail
    ((with_reducible refine (HE.out _ HS.out).mono ?_); rintro e w1 ⟨v1, rfl, s1, b1⟩)
    have B1 := Lib.hid b1
    have S1 := Lib.hid (HS.out.later b1)
    go_wp2_with fail
    ((with_reducible refine (HF.out _ _ s1).mono ?_); rintro e w2 ⟨rfl, rfl⟩)
    clear b1 s1
    go_wp2_with fail
    ((with_reducible refine (HJ.out _ (HG.out _ B1.out) S1.out).mono ?_); rintro e w3 ⟨rfl, b3⟩)
    have B3 := Lib.hid (B1.out.trans (b3.mono B1.out.size))
    clear b3 B1 S1 HE HF HJ HS
    go_wp2_with fail
    ((with_reducible refine (HA.out _ (HG.out _ B3.out)).mono ?_); rintro e w4 ⟨rfl, b4⟩)
    have B4 := Lib.hid (B3.out.trans (b4.mono B3.out.size))
    clear b4
    go_wp2
    go_ret
    exact ⟨rfl, B4.out⟩
  · have r3 := u8_eq_no (d := 10) (k := 10) rfl q3
    obtain ⟨p1, p2, p3⟩ := hsp q1 q2 q3
    clear q1 q2 q3
    go_enter Tryz.func7, Tryz.ntmps7
    go_wp2_with fail
    ((with_reducible refine (HE.out _ HS.out).mono ?_); rintro e w1 ⟨v1, rfl, s1, b1⟩)
    have B1 := Lib.hid b1
    have S1 := Lib.hid (HS.out.later b1)
    go_wp2_with fail
    ((with_reducible refine (HF.out _ _ s1).mono ?_); rintro e w2 ⟨rfl, rfl⟩)
    clear b1 s1
    go_wp2_with fail
    ((with_reducible refine (HJ.out _ (HG.out _ B1.out) S1.out).mono ?_); rintro e w3 ⟨rfl, b3⟩)
    have B3 := Lib.hid (B1.out.trans (b3.mono B1.out.size))
    clear b3 B1 S1 HE HF HJ HS
    go_wp2_with fail
    have hcv : (convert 58 9 (.slice (some ⟨w3.heap.size, 0, none⟩) 1 1)).run Tryz.prog (w3.alloc (.cells #[.int .u8 (b.toNat : Int)] 5)) = .ok (.string ⟨[b].toArray⟩) (w3.alloc (.cells #[.int .u8 (b.toNat : Int)] 5)) :=
      run_convert_bytes_back _ _ _ _ ⟨w3.heap.size, 0, none⟩ 1 [b] Tryz.underlying58 Tryz.underlying5 Tryz.underlying9 (fun i hi => by
        obtain rfl : i = 0 := by simpa using hi
        show (w3.alloc (.cells #[.int .u8 (b.toNat : Int)] 5)).cell? ⟨w3.heap.size, 0, none⟩ = _
        rw [cell_of_row _ _ _ _ _ _ (heap_alloc_new w3 _)]; rfl)
    have hcd : (convert 58 9 (.slice (some ⟨w3.heap.size, 0, none⟩) 1 1)).run Tryz.prog (w3.alloc (.cells #[.int .u8 (b.toNat : Int)] 5)).drew = .ok (.string ⟨[b].toArray⟩) (w3.alloc (.cells #[.int .u8 (b.toNat : Int)] 5)).drew :=
      run_convert_bytes_back _ _ _ _ ⟨w3.heap.size, 0, none⟩ 1 [b] Tryz.underlying58 Tryz.underlying5 Tryz.underlying9 (fun i hi => by
        obtain rfl : i = 0 := by simpa using hi
        show (w3.alloc (.cells #[.int .u8 (b.toNat : Int)] 5)).cell? ⟨w3.heap.size, 0, none⟩ = _
        rw [cell_of_row _ _ _ _ _ _ (heap_alloc_new w3 _)]; rfl)
    have m1 : min k L.length = k := Nat.min_eq_left (Nat.le_of_lt hkl)
    have hl := HLL.out
    obtain ⟨m2, m3, m4⟩ := spoil_len L.length k j hl hkl hj1
    have m5 : List.take (L.length - j) (List.drop j L) = List.drop j L := List.take_of_length_le (by simp)
    clear hl
    go_region
    have hb4 : Below w.heap.size w (w3.alloc (.cells #[.int .u8 (b.toNat : Int)] 5)).drew := below_dr (B3.out.trans (((Below.refl _ _).alloc (Nat.le_refl _) _).mono B3.out.size))
    clear hcv hcd m1 m2 m3 m4 m5 B3
    generalize (w3.alloc (.cells #[.int .u8 (b.toNat : Int)] 5)).drew = w4 at *
    have B4 := Lib.hid hb4
    clear hb4 dm wn wk wj j0 j1 dz hix r1 r2 r3 ne
    obtain ⟨bad, hbad⟩ : ∃ bad, List.take k L ++ b :: List.drop j L = bad := ⟨_, rfl⟩
    obtain ⟨pr, hpr⟩ : ∃ pr, List.take k L = pr := ⟨_, rfl⟩
    obtain ⟨z1, z2, z3⟩ := spoil_ends L bad pr b k j hbad hpr HLL.out hkl hj1
    rw [hbad] at p1 p2 p3
    rw [hpr] at p2 p3
    have HLD := Lib.hid (fun W hW => by have := Load_c bad W hW z1; rwa [show Rg.loadL bad = ((Rg.loadL bad).1, ((Rg.loadL bad).2.1, (Rg.loadL bad).2.2)) from rfl, p2] at this)
    have HRP := Lib.hid (fun W hW => Repair_c bad W hW z1)
    have HCN := Lib.hid (fun W => Count_c pr W)
    have HLX := Lib.hid (fun W => LastIndex_c pr W (Nat.le_trans z2 (by decide)))
    obtain ⟨l1, l1b, l1c, l1d, l2, l3⟩ := spoil_last (Rg.lastE pr) pr.length L.length (Rg.lastE_le pr) z2 z3
    obtain ⟨rp, hrp⟩ : ∃ rp, List.take (Rg.lastE pr) L = rp := ⟨_, rfl⟩
    have HRP := Lib.hid (fun W hW => by have := HRP.out W hW; rwa [p3, hrp] at this)
    generalize (Rg.loadL bad).1 = pl at *
    generalize (Rg.loadL bad).2.2 = pc at *
    generalize Rg.lastE pr = le at *
    generalize Rg.cnt pr = cn at *
    have y1 : (pc != 0) = true := bne_iff_ne.2 p1
    have HPR := Lib.hid hpr
    simp only [hbad]
    clear p1 p2 p3 z1 z2 z3 HLL hsp hj1 hkl hc hbad hpr
    go_wp2_with fail
    ((with_reducible refine (HLD.out _ (HG.out _ B4.out)).mono ?_); rintro e w5 ⟨v5, rfl, s5, b5⟩)
    have J := Lib.hid (B4.out.trans (b5.mono B4.out.size))
    have hpr := HPR.out
    clear B4 s5 b5 HLD
    go_wp2_with fail
    go_region_with (first
      | (go_at_call 27; (with_reducible refine (HCN.out _).mono ?_); rintro e wn ⟨rfl, rfl⟩)
      | (go_at_call 28; (with_reducible refine (HLX.out _).mono ?_); rintro e wn ⟨rfl, rfl⟩)
      | (go_at_call 21; (with_reducible refine (HRP.out _ (HG.out _ (by first | exact J.out | exact below_dr J.out))).mono ?_); rintro e wn ⟨rfl, b⟩; replace J := Lib.hid (show Below w.heap.size w wn from by first | exact J.out.trans (b.mono J.out.size) | exact (below_dr J.out).trans (b.mono J.out.size)); clear b)
      | (go_at_call 8; (with_reducible refine (HA.out _ (HG.out _ (by first | exact J.out | exact below_dr J.out))).mono ?_); rintro e wn ⟨rfl, b⟩; replace J := Lib.hid (show Below w.heap.size w wn from by first | exact J.out.trans (b.mono J.out.size) | exact (below_dr J.out).trans (b.mono J.out.size)); clear b)
      | fail)
    all_goals
      go_wp2
      go_ret
      first | exact ⟨rfl, J.out⟩ | exact ⟨rfl, below_dr J.out⟩
theorem spoils_c {v : Value} (es : List Rg.En) (n m : Int) (w : World) (hg : GoodS w) (S : SlX w v es) (hle : es.length * 32 ≤ 140737488355328) (hne : ∀ x ∈ es, x.lot.length ≤ 140737488355328) (hn : 0 ≤ n ∧ n ≤ 65535) (hm : 0 ≤ m ∧ m ≤ 255) :
    Calls Tryz.prog 7 #[v, .int .u16 n, .int .u8 m] w (Ret w (.bool true)) := by
  obtain ⟨b, rfl⟩ : ∃ b : UInt8, m = (b.toNat : Int) := ⟨UInt8.ofNat m.toNat, by rw [UInt8.toNat_ofNat_of_lt' (by show m.toNat < 256; omega)]; omega⟩
  by_cases h20 : 20 < es.length
  · exact spoils_out es n b w hg S hle (.inl h20)
  · cases hf : fewE es with
    | false => exact spoils_out es n b w hg S hle (.inr ⟨h20, hf⟩)
    | true =>
      by_cases hj : (Rg.journL es).2 = 0
      · by_cases hj2 : (Rg.journL es).1 = []
        · exact spoils_err es n b w hg S hle hne (Nat.le_of_not_lt h20) hf (.inr ⟨hj, hj2⟩)
        · exact spoils_main es n b w hg S hle hne (Nat.le_of_not_lt h20) hf hj hj2 hn
      · exact spoils_err es n b w hg S hle hne (Nat.le_of_not_lt h20) hf (.inl hj)
end Go.Proofs.Wk
