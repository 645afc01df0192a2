/- STRAIGHTNESS: the reference's lists, walked. -/
import Derived.Test.YtjopphkhpmoedaaGreatDoorScI
namespace Go.Proofs.Wk
open Go.RowKit Mt
attribute [-go_sem] Builtin.append_

theorem lst_facts {n k i : Nat} (hi : i < (St.lst n k).length) : (St.lst n k)[i].length = k ∧ St.nxt (St.lst n k)[i] ≤ n := by
  obtain ⟨h1, h2, h3⟩ := (St.mem_lst n k _).1 (List.getElem_mem hi)
  refine ⟨h1, ?_⟩
  generalize (St.lst n k)[i] = x at *
  by_cases h0 : 0 < x.length
  · rw [nxt_last h0, nA_get (show x.length - 1 < x.length by omega)]
    exact h3 _ (List.getElem_mem _)
  · obtain rfl := List.length_eq_zero_iff.1 (show x.length = 0 by omega)
    exact Nat.zero_le _
theorem SlX.lenH {w : World} {v : Value} {ls : List SlH} (S : SlX w v ls) : ∃ a cap, v = .slice a ls.length cap := by
  rcases S with ⟨a, cap, rfl, rfl⟩ | ⟨b, off, cap, rfl, -, -⟩
  · exact ⟨a, cap, rfl⟩
  · exact ⟨_, cap, rfl⟩
def extT (x : List Nat) (p : Nat) : List (List Nat) := extP x (p - St.nxt x)
theorem extT_nil (x : List Nat) : extT x (St.nxt x) = [] := by unfold extT; rw [Nat.sub_self]; rfl
theorem extT_len (x : List Nat) (p : Nat) : (extT x p).length = p - St.nxt x := extP_len _ _
theorem extT_step {x : List Nat} {p : Nat} (h : St.nxt x ≤ p) : extT x (p + 1) = extT x p ++ [x ++ [p]] := by
  unfold extT
  rw [show p + 1 - St.nxt x = (p - St.nxt x) + 1 by omega, extP_step, show St.nxt x + (p - St.nxt x) = p by omega]
theorem extT_all (n : Nat) (x : List Nat) : extT x n = St.ext n x := rfl
abbrev hdZ : Value := .slice none 0 0
set_option maxRecDepth 100000 in
set_option maxHeartbeats 4000000 in
theorem Lists_c (n : Nat) (hn : n ≤ 10) : ∀ (k : Nat), k ≤ 10 → ∀ w, Calls Tryz.prog 93 #[.int .i64 (n : Int), .int .i64 (k : Int)] w (NewL w (St.lst n k))
  | 0, _, w => by
    have hc := heap_alloc_new w (.cells #[.slice none 0 0] 29)
    have hb := below_al w (.cells #[.slice none 0 0] 29)
    clear hc
    go_enter Tryz.func93, Tryz.ntmps93
    go_wp2
    go_ret
    exact ⟨_, [⟨none, 0, 0⟩], rfl, .inr ⟨w.heap.size, 0, 1, rfl, RX.lit w [(⟨none, 0, 0⟩ : SlH)] 29, by simp⟩, (Hds.nil _).snoc (.inl ⟨none, 0, rfl, rfl⟩), hb⟩
  | k + 1, hk, w => by
    have HIH := Lib.hid (fun W => Lists_c n hn k (by omega) W)
    have hL : St.lst n (k + 1) = (St.lst n k).flatMap (St.ext n) := rfl
    have hlen := lst_len hn k
    have h10 : (10 : Nat) ^ k ≤ 10 ^ 10 := Nat.pow_le_pow_right (by decide) (by omega)
    have e10 : (10 : Nat) ^ 10 = 10000000000 := by decide
    have HLF := Lib.hid (fun i (hi : i < (St.lst n k).length) => lst_facts hi)
    have HFL := Lib.hid (fun i (hi : i < (St.lst n k).length) => flat_step (n := n) hi)
    have HFT := Lib.hid (fun i => show (((St.lst n k).take i).flatMap (St.ext n)).length ≤ 10000000000 * 10 by
      have h1 := flat_len n ((St.lst n k).take i)
      have h2 : ((St.lst n k).take i).length ≤ 10000000000 := by rw [List.length_take]; omega
      exact Nat.le_trans h1 (Nat.mul_le_mul h2 hn))
    have HFI := Lib.hid (show ((St.lst n k).take (St.lst n k).length).flatMap (St.ext n) = (St.lst n k).flatMap (St.ext n) by rw [List.take_length])
    rw [hL]
    have hm : (St.lst n k).length ≤ 10000000000 := by omega
    generalize St.lst n k = L at *
    obtain ⟨j, hj⟩ : ∃ j, j = k + 1 := ⟨_, rfl⟩
    rw [← hj]
    have hj0 : ((j : Int) == 0) = false := beq_eq_false_iff_ne.2 (by omega)
    have hjw : IntKind.i64.wrap ((j : Int) - 1) = (k : Int) := wr (by omega) (by omega)
    have hkk := Lib.hid hk
    clear hL hlen h10 e10 hj hk
    go_enter Tryz.func93, Tryz.ntmps93
    go_wp2_with fail
    ((with_reducible refine (HIH.out _).mono ?_); rintro e w1 ⟨v1, hs, rfl, S1, D1, hb1⟩)
    refine S1.cases _ ?_ ?_
    · rintro a cap rfl rfl
      obtain rfl : L = [] := List.length_eq_zero_iff.1 D1.1.symm
      clear S1 D1 HLF HFL HFT HFI
      go_wp2_with fail
      refine wp_loop_rounds 1 ?_
      rw [rounds_succ]
      go_wp2
      go_ret
      exact ⟨_, [], rfl, .inl ⟨none, 0, rfl, rfl⟩, Hds.nil _, hb1⟩
    rintro b off cap rfl hp hR hb
    have HR := Lib.hid (fun (W : World) (h : Below w1.heap.size w1 W) (k : Nat) (hk : k < hs.length) => (hR.later h hb).slh hk)
    have HD := Lib.hid (fun (W : World) (h : Below w1.heap.size w1 W) => D1.later h)
    have hln : hs.length = L.length := D1.1
    rw [hln]
    clear S1 D1 hR hp
    go_wp2_with fail
    go_loopw [5, 18] (fun sv si wr => ∃ (i : Nat) (ho : List SlH), si = .int .i64 (i : Int) ∧ i ≤ L.length ∧ Hid (LoO w1.heap.size wr sv ho ((L.take i).flatMap (St.ext n))) ∧ Hid (Below w1.heap.size w1 wr)) (fun _ si _ => L.length - (intOf si).toNat)
    case atStart => exact ⟨0, [], rfl, Nat.zero_le _, LoO.nil _ _, Below.refl _ _⟩
    case round =>
      obtain ⟨i, ho, rfl, hi, hO, hB⟩ := hrel
      rename World => W0
      by_cases hlt : i < L.length
      · have k0 := HR.out _ hB.out i (by omega)
        have hsx := fun W (h : Below w1.heap.size w1 W) => (HD.out W h).2 i _ _ (List.getElem?_eq_getElem (show i < hs.length by omega)) (List.getElem?_eq_getElem hlt)
        obtain ⟨hxl, hxn⟩ := HLF.out i hlt
        have HST := Lib.hid (HFL.out i hlt)
        have HLT := Lib.hid (HFT.out i)
        generalize (L.take i).flatMap (St.ext n) = A at *
        generalize L[i] = x at *
        generalize hs[i].v = hv at *
        have hxk : x.length ≤ 10 := by have := hkk.out; omega
        clear hxl
        by_cases hx0 : x.length = 0
        · obtain rfl := List.length_eq_zero_iff.1 hx0
          obtain ⟨xa, xc, rfl⟩ := (hsx _ hB.out).lenN
          have HSX := Lib.hid hsx
          clear hsx
          go_wp2_with fail
          go_loopw [5, 9] (fun sv sj wq => ∃ (p : Nat) (hq : List SlH), sj = .int .i64 (p : Int) ∧ 0 ≤ p ∧ p ≤ n ∧ Hid (LoO w1.heap.size wq sv hq (A ++ extT [] p)) ∧ Hid (Below w1.heap.size w1 wq)) (fun _ sj _ => n - (intOf sj).toNat)
          case atStart => exact ⟨(0), ho, rfl, Nat.le_refl _, hxn, by rw [show extT [] (0) = [] from extT_nil [], List.append_nil]; exact hO.out, hB.out⟩
          case round =>
            obtain ⟨p, hq, rfl, hnp, hpn, hOq, hBq⟩ := hrel
            by_cases hlp : p < n
            · have HSX2 := Lib.hid (HSX.out _ hBq.out)
              have HN1 := Lib.hid (show ([] : List Nat).length * 8 ≤ 140737488355328 by decide)
              have HN2 := Lib.hid (show (([] : List Nat).length + 1) * 8 ≤ 140737488355328 by decide)
              have HLQ := Lib.hid (show (hq.length + 1) * 24 ≤ 140737488355328 by
                have h1 := (hOq.out.keep _ (Kp.refl _ _)).1
                rw [List.length_append, extT_len] at h1
                have h2 := HLT.out
                omega)
              have HSTP := Lib.hid (extT_step (x := []) (p := p) hnp)
              go_wp2_with (first
                | (at_builtin; refine wpList_clone_row rfl _ _ 29 3 rfl Tryz.underlying29 natZ 8 (by decide) (by kernel_rfl) rfl wr.heap.size _ [] _ rfl rfl HN1.out (HSX2.out.later ((Below.refl _ _).alloc (Nat.le_refl _) _)) (Nat.le_of_lt (alloc_lt _ _)) ?_; rintro v2 w2 hc2 hb2; have HB2 := Lib.hid (show Below wr.heap.size wr w2 from ((Below.refl _ _).alloc (Nat.le_refl _) _).trans hb2); have HC2 := Lib.hid hc2; clear hc2 hb2)
                | (at_builtin; refine wpList_push_row rfl _ _ 29 3 rfl Tryz.underlying29 natZ 8 (by decide) (by kernel_rfl) rfl wr.heap.size _ [] rfl w2.heap.size p rfl HN2.out (HC2.out.later (below_al w2 (.cells #[.int .i64 (p : Int)] 3))) (Nat.le_trans HB2.out.size (below_al w2 (.cells #[.int .i64 (p : Int)] 3)).size) (new_nat w2 p 3) ?_; rintro v3 w3 ho3 hb3; have HB3 := Lib.hid (show Below wr.heap.size wr w3 from (HB2.out.nx (below_al w2 (.cells #[.int .i64 (p : Int)] 3))).trans hb3); obtain ⟨ya, yc, rfl⟩ := ho3.sl.lenN; have HO3 := Lib.hid ho3; clear ho3 hb3 HC2; obtain ⟨ny, hny⟩ : ∃ N, ([] ++ [p]).length = N := ⟨_, rfl⟩; rw [hny] at HO3 ⊢; clear hny)
                | (at_builtin; refine wpList_app_kp rfl _ _ 128 29 rfl Tryz.underlying128 hdZ 24 (by decide) (by kernel_rfl) rfl w1.heap.size _ hq rfl ((hOq.out.own.later HB3.out).later (below_al w3 (.cells #[.slice ya ny yc] 29))) w3.heap.size (⟨ya, ny, yc⟩ : SlH) rfl (new_slh w3 ⟨ya, ny, yc⟩ 29) HLQ.out (Nat.le_trans hBq.out.size (HB3.out.nx (below_al w3 (.cells #[.slice ya ny yc] 29))).size) ?_; rintro v4 w4 ho4 hk4 hn4; have HK4 := Lib.hid hk4; have HN4 := Lib.hid hn4; have HO4 := Lib.hid ho4; clear ho4 hk4 hn4))
              have hal := below_al w3 (.cells #[.slice ya ny yc] 29)
              have h3 := (hOq.out.later HB3.out).later hal
              have h4 := h3.snoc (a := ⟨ya, ny, yc⟩) (x := [] ++ [p]) (fun W' k => hOq.out.apart (HO3.out.later hal) k) HO4.out HK4.out HN4.out
              have h5 : Below w1.heap.size w1 w4 := (hBq.out.nx (HB3.out.nx hal)).trans (HK4.out.below (Nat.le_trans hBq.out.size (HB3.out.nx hal).size) fun k hk => (own_blk hOq.out.own k hk).1)
              refine ⟨⟨p + 1, hq ++ [⟨ya, ny, yc⟩], by go_num, by omega, by omega, ?_, h5⟩, by simp [intOf]; omega⟩
              rw [HSTP.out, ← List.append_assoc]
              exact h4
            · have hpe : p = n := by omega
              have HOE := Lib.hid (show LoO w1.heap.size wr u5 hq ((L.take (i + 1)).flatMap (St.ext n)) by rw [HST.out, ← extT_all, ← hpe]; exact hOq.out)
              have hpz : ¬ (p : Int) < (n : Int) := by omega
              clear hpe hOq hlp
              go_wp2
              go_roundw
              case rel => exact ⟨i + 1, hq, by go_num, by omega, HOE.out, hBq.out⟩
              case measure => simp [intOf]; omega
        · obtain ⟨q, hq⟩ : ∃ q, q = x.length - 1 := ⟨_, rfl⟩
          have hqw : IntKind.i64.wrap ((x.length : Int) - 1) = (q : Int) := Go.Proofs.Wk.wr (by omega) (by omega)
          have hq1 : (q : Int) < (x.length : Int) := by omega
          have hx1 : (0 : Int) < (x.length : Int) := by omega
          have hnl : nA x q + 1 = St.nxt x := by rw [hq]; exact (nxt_last (by omega)).symm
          have HSX := Lib.hid hsx
          refine (hsx _ hB.out).cases _ ?_ ?_
          · rintro xa xc rfl rfl
            simp at hx0
          rintro b2 off2 cap2 rfl hp2 hR2 hb2
          have l0 := hR2.nA (show q < x.length by omega)
          have hnw : IntKind.i64.wrap ((nA x q : Int) + 1) = (St.nxt x : Int) := Go.Proofs.Wk.wr (by omega) (by omega)
          generalize nA x q = la at *
          have hz24 : decide (0 < x.length) = true := decide_eq_true (by omega)
          clear hsx hp2 hR2 hb2 hq hnl hx0
          go_wp2_with fail
          go_loopw [5, 9] (fun sv sj wq => ∃ (p : Nat) (hq : List SlH), sj = .int .i64 (p : Int) ∧ St.nxt x ≤ p ∧ p ≤ n ∧ Hid (LoO w1.heap.size wq sv hq (A ++ extT x p)) ∧ Hid (Below w1.heap.size w1 wq)) (fun _ sj _ => n - (intOf sj).toNat)
          case atStart => exact ⟨(St.nxt x), ho, rfl, Nat.le_refl _, hxn, by rw [show extT x (St.nxt x) = [] from extT_nil x, List.append_nil]; exact hO.out, hB.out⟩
          case round =>
            obtain ⟨p, hq, rfl, hnp, hpn, hOq, hBq⟩ := hrel
            by_cases hlp : p < n
            · have HSX2 := Lib.hid (HSX.out _ hBq.out)
              have HN1 := Lib.hid (show (x : List Nat).length * 8 ≤ 140737488355328 by omega)
              have HN2 := Lib.hid (show ((x : List Nat).length + 1) * 8 ≤ 140737488355328 by omega)
              have HLQ := Lib.hid (show (hq.length + 1) * 24 ≤ 140737488355328 by
                have h1 := (hOq.out.keep _ (Kp.refl _ _)).1
                rw [List.length_append, extT_len] at h1
                have h2 := HLT.out
                omega)
              have HSTP := Lib.hid (extT_step (x := x) (p := p) hnp)
              go_wp2_with (first
                | (at_builtin; refine wpList_clone_row rfl _ _ 29 3 rfl Tryz.underlying29 natZ 8 (by decide) (by kernel_rfl) rfl wr.heap.size _ x _ rfl rfl HN1.out (HSX2.out.later ((Below.refl _ _).alloc (Nat.le_refl _) _)) (Nat.le_of_lt (alloc_lt _ _)) ?_; rintro v2 w2 hc2 hb2; have HB2 := Lib.hid (show Below wr.heap.size wr w2 from ((Below.refl _ _).alloc (Nat.le_refl _) _).trans hb2); have HC2 := Lib.hid hc2; clear hc2 hb2)
                | (at_builtin; refine wpList_push_row rfl _ _ 29 3 rfl Tryz.underlying29 natZ 8 (by decide) (by kernel_rfl) rfl wr.heap.size _ x rfl w2.heap.size p rfl HN2.out (HC2.out.later (below_al w2 (.cells #[.int .i64 (p : Int)] 3))) (Nat.le_trans HB2.out.size (below_al w2 (.cells #[.int .i64 (p : Int)] 3)).size) (new_nat w2 p 3) ?_; rintro v3 w3 ho3 hb3; have HB3 := Lib.hid (show Below wr.heap.size wr w3 from (HB2.out.nx (below_al w2 (.cells #[.int .i64 (p : Int)] 3))).trans hb3); obtain ⟨ya, yc, rfl⟩ := ho3.sl.lenN; have HO3 := Lib.hid ho3; clear ho3 hb3 HC2; obtain ⟨ny, hny⟩ : ∃ N, (x ++ [p]).length = N := ⟨_, rfl⟩; rw [hny] at HO3 ⊢; clear hny)
                | (at_builtin; refine wpList_app_kp rfl _ _ 128 29 rfl Tryz.underlying128 hdZ 24 (by decide) (by kernel_rfl) rfl w1.heap.size _ hq rfl ((hOq.out.own.later HB3.out).later (below_al w3 (.cells #[.slice ya ny yc] 29))) w3.heap.size (⟨ya, ny, yc⟩ : SlH) rfl (new_slh w3 ⟨ya, ny, yc⟩ 29) HLQ.out (Nat.le_trans hBq.out.size (HB3.out.nx (below_al w3 (.cells #[.slice ya ny yc] 29))).size) ?_; rintro v4 w4 ho4 hk4 hn4; have HK4 := Lib.hid hk4; have HN4 := Lib.hid hn4; have HO4 := Lib.hid ho4; clear ho4 hk4 hn4))
              have hal := below_al w3 (.cells #[.slice ya ny yc] 29)
              have h3 := (hOq.out.later HB3.out).later hal
              have h4 := h3.snoc (a := ⟨ya, ny, yc⟩) (x := x ++ [p]) (fun W' k => hOq.out.apart (HO3.out.later hal) k) HO4.out HK4.out HN4.out
              have h5 : Below w1.heap.size w1 w4 := (hBq.out.nx (HB3.out.nx hal)).trans (HK4.out.below (Nat.le_trans hBq.out.size (HB3.out.nx hal).size) fun k hk => (own_blk hOq.out.own k hk).1)
              refine ⟨⟨p + 1, hq ++ [⟨ya, ny, yc⟩], by go_num, by omega, by omega, ?_, h5⟩, by simp [intOf]; omega⟩
              rw [HSTP.out, ← List.append_assoc]
              exact h4
            · have hpe : p = n := by omega
              have HOE := Lib.hid (show LoO w1.heap.size wr u5 hq ((L.take (i + 1)).flatMap (St.ext n)) by rw [HST.out, ← extT_all, ← hpe]; exact hOq.out)
              have hpz : ¬ (p : Int) < (n : Int) := by omega
              clear hpe hOq hlp
              go_wp2
              go_roundw
              case rel => exact ⟨i + 1, hq, by go_num, by omega, HOE.out, hBq.out⟩
              case measure => simp [intOf]; omega
      · obtain rfl : i = L.length := by omega
        have hd := hO.out
        rw [HFI.out] at hd
        clear hO HFL HFT HLF
        go_wp2
        go_ret
        exact ⟨_, ho, rfl, hd.own.sl, hd.keep _ (Kp.refl _ _), hb1.nx hB.out⟩
end Go.Proofs.Wk
