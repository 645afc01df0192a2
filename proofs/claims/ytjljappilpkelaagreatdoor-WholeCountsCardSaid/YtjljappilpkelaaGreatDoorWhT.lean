/- THE PROGRAM's ARITHMETIC: sums of lists. -/
import Derived.Test.YtjljappilpkelaaGreatDoorWhR
namespace Go.Proofs.Wk
open Go.RowKit Mt

/-- A slice of texts. -/
def SlS (w : World) (v : Value) (ls : List Txt) : Prop := (∃ a c, v = .slice a 0 c ∧ ls = []) ∨ ∃ b off c, v = .slice (some ⟨b, off, none⟩) ls.length c ∧ RS w b off ls ∧ b < w.heap.size
theorem SlS.later {w w' : World} {v : Value} {ls : List Txt} (h : SlS w v ls) (hb : Below w.heap.size w w') : SlS w' v ls := by
  rcases h with h | ⟨b, off, c, rfl, hR, hl⟩
  · exact .inl h
  · exact .inr ⟨b, off, c, rfl, hR.later hb hl, Nat.lt_of_lt_of_le hl hb.size⟩
set_option maxRecDepth 100000 in
theorem all_e (a : Option Addr) (c : Nat) (w : World) : Calls Tryz.prog 39 #[.slice a 0 c] w (Pur w (.int .i64 0)) := by
  go_enter Tryz.func39, Tryz.ntmps39
  go_wp2
  go_loop [8] (fun s => s = .int .i64 0) (fun _ => 0)
  case atStart => rfl
  case round =>
    subst hrel
    go_wp2
    go_ret
    exact ⟨rfl, rfl⟩
theorem all_s {v : Value} (ls : List Txt) (w : World) (h : SlS w v ls) (hls : ls.length ≤ 140737488355328) (hlen : ∀ l ∈ ls, l.length ≤ 140737488355328) : Calls Tryz.prog 39 #[v] w (Ret w (.int .i64 (firstErr ls))) := by
  rcases h with ⟨a, c, rfl, rfl⟩ | ⟨b, off, c, rfl, hR, hl⟩
  · exact (all_e a c w).mono fun _ _ h => h.ret
  · exact all_c b off c ls w hls hlen hR hl
set_option maxRecDepth 100000 in
theorem sum_e (a : Option Addr) (c : Nat) (w : World) (hg : Good w) : Calls Tryz.prog 54 #[.slice a 0 c] w (Ret w (ans2 (kept 0))) := by
  have HG := Lib.hid hg
  clear hg
  go_enter Tryz.func54, Tryz.ntmps54
  go_wp2
  go_loop [11] (fun s => s = .int .i64 0) (fun _ => 0)
  case atStart => rfl
  case round =>
    subst hrel
    have hB : Below w.heap.size w (w.alloc (.cells Tryz.zeroCells73 73)) := (Below.refl _ _).alloc (Nat.le_refl _) _
    have HL := Lib.hid (limited_c w.heap.size false 0 _ (CW.zero w) (HG.out.later hB))
    go_wp2_with fail
    refine HL.out.mono ?_
    rintro e w1 ⟨rfl, hb1⟩
    go_wp2
    go_ret2
    exact ⟨rfl, hB.trans (hb1.mono hB.size)⟩
theorem sum_s {v : Value} (ns : List Int) (w : World) (h : SlS w v (ns.map Lib.itoa)) (hls : ns.length ≤ 1000000) (hlen : ∀ n ∈ ns, n.natAbs < big) (hg : Good w) : Calls Tryz.prog 54 #[v] w (Ret w (ans2 (kept ns.sum))) := by
  rcases h with ⟨a, c, rfl, e⟩ | ⟨b, off, c, rfl, hR, hl⟩
  · obtain rfl : ns = [] := List.map_eq_nil_iff.1 e
    exact sum_e a c w hg
  · rw [List.length_map]
    exact sum_c b off c ns w hls hlen hR hl hg

theorem SlS.len {w : World} {v : Value} {ls : List Txt} (h : SlS w v ls) : ∃ a c, v = .slice a ls.length c := by
  rcases h with ⟨a, c, rfl, rfl⟩ | ⟨b, off, c, rfl, _, _⟩
  · exact ⟨_, _, rfl⟩
  · exact ⟨_, _, rfl⟩
set_option maxRecDepth 100000 in
set_option maxHeartbeats 1000000 in
theorem wTotal_c {v : Value} (ls : List Txt) (w : World) (hg : Good w) (h : SlS w v ls) (hls : ls.length ≤ 140737488355328) (hlen : ∀ l ∈ ls, l.length ≤ 140737488355328) : Calls Tryz.prog 22 #[v] w (Ret w (ans2 (tot2 ls))) := by
  have HA := Lib.hid (fun W (hs : SlS W v ls) => all_s ls W hs hls hlen)
  have HS := Lib.hid h
  have HG := Lib.hid hg
  have hB0 := Below.refl w.heap.size w
  obtain ⟨a, c, rfl⟩ := h.len
  by_cases h1 : 4096 < ls.length
  · rw [show tot2 ls = ([], 5) by unfold tot2; rw [if_pos h1]]
    obtain ⟨n, hn⟩ : ∃ n, ls.length = n := ⟨_, rfl⟩
    have h1' : (4096 : Int) < (n : Int) := by omega
    rw [hn] at HA HS ⊢
    clear hn hg h hlen h1
    go_enter Tryz.func22, Tryz.ntmps22
    go_wp2
    go_ret2
    exact ⟨rfl, hB0⟩
  · by_cases h2 : firstErr ls = 0
    · rw [show tot2 ls = kept (ls.map val).sum by unfold tot2; rw [if_neg h1, if_pos h2]]
      have hz := firstErr_zero h2
      have HT := Lib.hid (fun W (hs : SlS W (.slice a ls.length c) ls) hG => sum_s (v := .slice a ls.length c) (ls.map val) W (by rw [map_val hz]; exact hs) (by rw [List.length_map]; omega) (map_val_big hz) hG)
      rw [h2] at HA
      obtain ⟨n, hn⟩ : ∃ n, ls.length = n := ⟨_, rfl⟩
      have h1' : ¬ (4096 : Int) < (n : Int) := by omega
      rw [hn] at HA HS HT ⊢
      clear hn hg h hlen hz h2 h1
      go_enter Tryz.func22, Tryz.ntmps22
      go_wp2_with fail
      refine (HA.out _ HS.out).mono ?_; rintro e w1 ⟨rfl, hb1⟩
      have hB1 := hB0.trans (hb1.mono hB0.size); clear hb1
      go_wp2_with fail
      refine (HT.out _ (HS.out.later hB1) (HG.out.later hB1)).mono ?_; rintro e w2 ⟨rfl, hb2⟩
      have hB2 := hB1.trans (hb2.mono hB1.size); clear hb2
      go_wp2
      go_ret2
      exact ⟨rfl, hB2⟩
    · rw [show tot2 ls = ([], firstErr ls) by unfold tot2; rw [if_neg h1, if_neg h2]]
      obtain ⟨n, hn⟩ : ∃ n, ls.length = n := ⟨_, rfl⟩
      obtain ⟨x, hx⟩ : ∃ x, firstErr ls = x := ⟨_, rfl⟩
      rw [hn] at HA HS ⊢
      rw [hx] at HA h2 ⊢
      have h3 := bne_ne h2
      have h1' : ¬ (4096 : Int) < (n : Int) := by omega
      clear hn hx hg h hlen h2 h1
      go_enter Tryz.func22, Tryz.ntmps22
      go_wp2_with fail
      refine (HA.out _ HS.out).mono ?_; rintro e w1 ⟨rfl, hb1⟩
      have hB1 := hB0.trans (hb1.mono hB0.size); clear hb1
      go_wp2
      go_ret2
      exact ⟨rfl, hB1⟩
end Go.Proofs.Wk
