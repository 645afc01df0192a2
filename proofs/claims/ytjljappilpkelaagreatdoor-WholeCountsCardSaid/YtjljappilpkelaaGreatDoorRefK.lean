/- THE REFERENCE's WHOLE NUMBERS: sums of lists. -/
import Derived.Test.YtjljappilpkelaaGreatDoorRefJ
import Derived.LoopN
namespace Go.Proofs.Wk
open Go.RowKit Mt

theorem lng_step {s m : Int} {i : Nat} (hs : lng s ≤ 1024 + i) (hm : lng m ≤ 1024) : lng (s + m) ≤ 1024 + (i + 1) := by have := lng_add s m (k := 1024 + i) hs (by omega); omega
theorem lng_zero : lng 0 ≤ 1 := (lng_le 0 (by omega)).2 (by decide)
set_option maxRecDepth 100000 in
theorem Summed_e (a : Option Addr) (c : Nat) (w : World) : Calls Tryz.prog 55 #[.slice a 0 c] w (Pur w (.string ⟨#[48]⟩)) := by
  go_enter Tryz.func55, Tryz.ntmps55
  go_wp2_with fail
  refine wp_loop_rounds 1 ?_
  rw [rounds_succ]
  go_wp2
  go_ret
  exact ⟨rfl, rfl⟩
set_option maxRecDepth 100000 in
set_option maxHeartbeats 1000000 in
theorem Summed_c {v : Value} (ns : List Int) (w : World) (h : SlS w v (ns.map Lib.itoa)) (hls : ns.length ≤ 4096) (hlen : ∀ n ∈ ns, lng n ≤ 1024) : Calls Tryz.prog 55 #[v] w (Ret w (.string ⟨(Lib.itoa ns.sum).toArray⟩)) := by
  rcases h with ⟨a, c, rfl, e⟩ | ⟨b, off, c, rfl, hR, hl⟩
  · obtain rfl : ns = [] := List.map_eq_nil_iff.1 e
    exact (Summed_e a c w).mono fun _ _ h => by
      rw [show ([] : List Int).sum = 0 from rfl, itoa_zero]; exact h.ret
  · rw [List.length_map]
    have HR := Lib.hid hR; have HL := Lib.hid hlen
    clear hR hlen
    obtain ⟨n, hn⟩ : ∃ n, ns.length = n := ⟨_, rfl⟩
    rw [hn] at hls ⊢
    have HN := Lib.hid hn
    clear hn
    go_enter Tryz.func55, Tryz.ntmps55
    go_wp2_with fail
    go_loopw [3, 4] (fun so si wr => ∃ i : Nat, si = .int .i64 (i : Int) ∧ i ≤ n ∧ so = .string ⟨(Lib.itoa (ns.take i).sum).toArray⟩ ∧ Hid (lng (ns.take i).sum ≤ 1024 + i) ∧ Below w.heap.size w wr) (fun _ si _ => n - (intOf si).toNat)
    case atStart => exact ⟨0, rfl, by omega, by rw [show (ns.take 0).sum = 0 from rfl, itoa_zero], by show lng (ns.take 0).sum ≤ _; rw [show (ns.take 0).sum = 0 from rfl]; have := lng_zero; omega, Below.refl _ _⟩
    case round =>
      obtain ⟨i, rfl, hi, rfl, hlg, hB⟩ := hrel
      by_cases hlt : i < n
      · have hil : i < ns.length := by rw [HN.out]; exact hlt
        have hc := (HR.out.later hB hl) i (by rw [List.length_map]; exact hil)
        rw [List.getElem_map] at hc
        have hm := HL.out ns[i] (List.getElem_mem hil)
        have hst := sum_take hil
        obtain ⟨m, hmm⟩ : ∃ m, ns[i] = m := ⟨_, rfl⟩
        rw [hmm] at hc hm hst
        have HP := Lib.hid (fun W => Plus_c (ns.take i).sum m W (by have := hlg.out; omega) (by omega))
        rw [← hst] at HP
        have hnx := lng_step hlg.out hm
        rw [← hst] at hnx
        have HNX := Lib.hid hnx
        clear hmm hst hm hnx
        go_wp2_with fail
        refine (HP.out _).mono ?_; rintro e w2 ⟨rfl, hb2⟩
        have hB2 := hB.trans (hb2.mono hB.size)
        go_wp2
        go_roundw
        case rel => exact ⟨i + 1, by go_num, by omega, rfl, HNX.out, hB2⟩
        case measure => simp [intOf]; omega
      · obtain rfl : i = n := by omega
        go_wp2
        go_ret
        refine ⟨?_, hB⟩
        rw [List.take_of_length_le (by rw [HN.out]; exact Nat.le_refl _)]; rfl

theorem kept_zero' : kept 0 = ([48], 0) := by rw [kept_small (by omega) (by omega), itoa_zero]
theorem kept_bad {n : Int} (h : ¬ n.natAbs < big) : kept n = ([], 11) := by unfold kept; rw [if_neg h]
set_option maxRecDepth 100000 in
set_option maxHeartbeats 1000000 in
theorem rTotal_e (a : Option Addr) (c : Nat) (w : World) : Calls Tryz.prog 23 #[.slice a 0 c] w (Ret w (ans2 ([48], 0))) := by
  have HS := Lib.hid (fun W => Summed_e a c W)
  have hk := fun W => Kept_c 0 W
  rw [kept_zero', itoa_zero] at hk
  have HK := Lib.hid hk
  go_enter Tryz.func23, Tryz.ntmps23
  go_wp2_with fail
  refine wp_loop_rounds 1 ?_
  rw [rounds_succ]
  go_wp2_with fail
  ((with_reducible refine (HS.out _).mono ?_); rintro e w' ⟨rfl, rfl⟩)
  go_wp2_with fail
  ((with_reducible refine (HK.out _).mono ?_); rintro e w' ⟨rfl, rfl⟩)
  go_wp2
  go_ret2
  exact ⟨rfl, Below.refl _ _⟩
set_option maxRecDepth 100000 in
set_option maxHeartbeats 1000000 in
theorem rTotal_c {v : Value} (ls : List Txt) (w : World) (h : SlS w v ls) (hls : ls.length ≤ 140737488355328) (hlen : ∀ l ∈ ls, l.length ≤ 140737488355328) : Calls Tryz.prog 23 #[v] w (Ret w (ans2 (tot2 ls))) := by
  rcases h with ⟨a, c, rfl, rfl⟩ | ⟨b, off, c, rfl, hR, hl⟩
  · rw [show tot2 [] = kept 0 from rfl, kept_zero']
    exact rTotal_e a c w
  · by_cases h1 : 4096 < ls.length
    · rw [show tot2 ls = ([], 5) by unfold tot2; rw [if_pos h1]]
      obtain ⟨n, hn⟩ : ∃ n, ls.length = n := ⟨_, rfl⟩
      have h1' : (4096 : Int) < (n : Int) := by omega
      rw [hn]
      clear hn h1 hlen hR hls
      go_enter Tryz.func23, Tryz.ntmps23
      go_wp2
      go_ret2
      exact ⟨rfl, Below.refl _ _⟩
    · have HS := Lib.hid (fun (hz : firstErr ls = 0) => Summed_c (v := .slice (some ⟨b, off, none⟩) ls.length c) (ls.map val) w (.inr ⟨b, off, c, by rw [List.length_map, List.length_map], by rw [map_val (firstErr_zero hz)]; exact hR, hl⟩) (by rw [List.length_map]; omega) (fun n hn => by
        have := map_val_big (firstErr_zero hz) n hn; exact lng_big this))
      have HK := Lib.hid (fun W => Kept_c (ls.map val).sum W)
      have HT := Lib.hid (show tot2 ls = if firstErr ls = 0 then kept (ls.map val).sum else ([], firstErr ls) by unfold tot2; rw [if_neg h1])
      have HR := Lib.hid hR; have HL := Lib.hid hlen
      obtain ⟨n, hn⟩ : ∃ n, ls.length = n := ⟨_, rfl⟩
      have h1' : ¬ (4096 : Int) < (n : Int) := by omega
      rw [hn] at hls HS ⊢
      have HN := Lib.hid hn
      clear hn hR hlen h1
      go_enter Tryz.func23, Tryz.ntmps23
      go_wp2_with fail
      go_loop [4] (fun si => ∃ i : Nat, si = .int .i64 (i : Int) ∧ i ≤ n ∧ Hid (firstErr (ls.drop i) = firstErr ls)) (fun si => n - (intOf si).toNat)
      case atStart => exact ⟨0, rfl, Nat.zero_le _, rfl⟩
      case round =>
        obtain ⟨i, rfl, hi, hE⟩ := hrel
        by_cases hlt : i < n
        · have hil : i < ls.length := by rw [HN.out]; exact hlt
          have hc := HR.out i hil
          have hd := firstErr_drop hil
          have hll := HL.out ls[i] (List.getElem_mem hil)
          obtain ⟨l, hle⟩ : ∃ l, ls[i] = l := ⟨_, rfl⟩
          rw [hle] at hc hd hll
          have HC := Lib.hid (fun W => Check_c l W hll)
          by_cases hz : chk l = 0
          · rw [hz] at HC
            rw [if_pos hz] at hd
            have HD := Lib.hid hd
            clear hle hd hll hz
            go_wp2_with fail
            ((with_reducible refine (HC.out _).mono ?_); rintro e w' ⟨rfl, rfl⟩)
            go_wp2
            go_round
            case rel => exact ⟨i + 1, by go_num, by omega, by show _ = _; rw [← hE.out, HD.out]⟩
            case measure => simp [intOf]; omega
          · rw [if_neg hz] at hd
            have h3 := bne_ne hz
            have HTT := Lib.hid (show tot2 ls = ([], chk l) by
              have e := hE.out
              rw [hd] at e
              rw [HT.out, ← e, if_neg hz])
            generalize chk l = x at *
            clear hle hd hll hz
            go_wp2_with fail
            ((with_reducible refine (HC.out _).mono ?_); rintro e w' ⟨rfl, rfl⟩)
            go_wp2
            go_ret2
            rw [HTT.out]
            exact ⟨rfl, Below.refl _ _⟩
        · obtain rfl : i = n := by omega
          have hz : firstErr ls = 0 := by
            rw [← hE.out, ← HN.out, List.drop_length]; rfl
          have HTT := Lib.hid (show tot2 ls = kept (ls.map val).sum by rw [HT.out, if_pos hz])
          have HSS := Lib.hid (HS.out hz)
          have hB0 := Below.refl w.heap.size w
          clear hz
          go_wp2_with fail
          ((with_reducible refine (HSS.out).mono ?_); rintro e w1 ⟨rfl, hb1⟩)
          have hB1 := hB0.trans (hb1.mono hB0.size); clear hb1
          go_wp2_with fail
          ((with_reducible refine (HK.out _).mono ?_); rintro e w' ⟨rfl, rfl⟩)
          go_wp2
          go_ret2
          rw [HTT.out]
          exact ⟨rfl, hB1⟩
end Go.Proofs.Wk
