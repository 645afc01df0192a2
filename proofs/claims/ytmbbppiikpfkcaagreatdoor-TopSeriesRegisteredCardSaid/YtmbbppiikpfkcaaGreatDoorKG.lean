/- REGISTERS OF LOTS: checksums. -/
import Derived.Test.YtmbbppiikpfkcaaGreatDoorKC
import Derived.Test.YtmbbppiikpfkcaaGreatDoorKF
import Derived.Test.YtmbbppiikpfkcaaGreatDoorVG
namespace Rg
/-- The checksum of a text behind a number. -/
def sumF (h : Int) : Txt → Int
  | [] => h
  | c :: s => sumF ((257 * h + (c.toNat : Int) + 1) % 1000003) s
def sum0 (b : Int) : Int := if Int.tmod b 1000003 < 0 then Int.tmod b 1000003 + 1000003 else Int.tmod b 1000003
def sumL (b : Int) (s : Txt) : Int := sumF (sum0 b) s
theorem sum0_in (b : Int) : 0 ≤ sum0 b ∧ sum0 b < 1000003 := by
  have h1 := Int.tmod_lt_of_pos b (show (0 : Int) < 1000003 by decide)
  have h2 := Int.lt_tmod_of_pos b (show (0 : Int) < 1000003 by decide)
  unfold sum0
  split <;> omega
theorem step_in (h : Int) (c : UInt8) : 0 ≤ (257 * h + (c.toNat : Int) + 1) % 1000003 ∧ (257 * h + (c.toNat : Int) + 1) % 1000003 < 1000003 :=
  by omega
theorem sumF_in : ∀ {h : Int} (s : Txt), 0 ≤ h ∧ h < 1000003 → 0 ≤ sumF h s ∧ sumF h s < 1000003
  | _, [], H => H
  | _, c :: s, _ => sumF_in s (step_in _ c)
theorem sumL_in (b : Int) (s : Txt) : 0 ≤ sumL b s ∧ sumL b s < 1000003 := sumF_in s (sum0_in b)
end Rg
namespace Go.Proofs.Wk
open Go.RowKit Mt

theorem sumF_step {s : Txt} {h : Int} {i : Nat} (hi : i < s.length) : Rg.sumF h (s.drop i) = Rg.sumF ((257 * h + (s[i].toNat : Int) + 1) % 1000003) (s.drop (i + 1)) := by
  rw [List.drop_eq_getElem_cons hi, Rg.sumF]
set_option maxRecDepth 100000 in
set_option maxHeartbeats 1000000 in
theorem Sum_c (b : Int) (s : Txt) (w : World) (hl : s.length ≤ 140737488355328) : Calls Tryz.prog 28 #[.int .i64 b, .string ⟨s.toArray⟩] w (Ret w (.int .i64 (Rg.sumL b s))) := by
  have hE : Rg.sumF (Rg.sum0 b) (s.drop 0) = Rg.sumL b s := rfl
  generalize Rg.sumL b s = E at *
  have hin := Rg.sum0_in b
  have hd : Rg.sum0 b = if Int.tmod b 1000003 < 0 then Int.tmod b 1000003 + 1000003 else Int.tmod b 1000003 := rfl
  obtain ⟨h0, hh0⟩ : ∃ h0, Rg.sum0 b = h0 := ⟨_, rfl⟩
  rw [hh0] at hE hin hd
  have HE := Lib.hid hE
  have hconv := Lib.run_convert_string_bytes (P := Tryz.prog) w 9 67 5 ⟨s.toArray⟩ (u := .string) Tryz.underlying9 Tryz.underlying67 Tryz.underlying5
  have hm := Int.tmod_lt_of_pos b (show (0 : Int) < 1000003 by decide)
  have hm2 := Int.lt_tmod_of_pos b (show (0 : Int) < 1000003 by decide)
  rcases (by omega : Int.tmod b 1000003 < 0 ∨ 0 ≤ Int.tmod b 1000003) with hs | hs
  · obtain rfl : h0 = Int.tmod b 1000003 + 1000003 := by rw [hd, if_pos hs]
    clear hE hh0 hd
    go_enter Tryz.func28, Tryz.ntmps28
    go_wp2_with fail
    clear hconv
    go_loop [5, 17] (fun sh si => ∃ (h : Int) (i : Nat), sh = .int .i64 h ∧ si = .int .i64 (i : Int) ∧ i ≤ s.length ∧ (0 ≤ h ∧ h < 1000003) ∧ Hid (Rg.sumF h (s.drop i) = E)) (fun _ si => s.length - (intOf si).toNat)
    case atStart => exact ⟨_, 0, rfl, rfl, Nat.zero_le _, hin, HE.out⟩
    case round =>
      obtain ⟨h, i, rfl, rfl, hi, hh, hc⟩ := hrel
      by_cases hlt : i < s.length
      · have hstep := hc.out
        rw [sumF_step hlt] at hstep
        have hnx := Rg.step_in h s[i]
        have hby := s[i].toNat_lt
        have k1 : (Lib.bytesWorld w 5 ⟨s.toArray⟩).cell? ⟨w.heap.size, i, none⟩ = some (.int .u8 (s[i].toNat : Int)) := by
          rw [Lib.bytesWorld_cell w _ _ i (by simpa [ByteArray.size] using hlt)]
          simp [hlt]
        have HS := Lib.hid hstep
        have HNX := Lib.hid hnx
        clear hstep hc HE hnx hin hs hm hm2
        go_wp2
        go_round
        case rel => exact ⟨_, i + 1, by go_num, by go_num, by omega, HNX.out, HS.out⟩
        case measure => simp [intOf]; omega
      · obtain rfl : i = s.length := by omega
        have hfin := hc.out
        rw [List.drop_length] at hfin
        obtain rfl : h = E := hfin
        clear hc HE
        go_wp2
        go_ret
        exact ⟨rfl, below_bytes w _ _⟩
  · obtain rfl : h0 = Int.tmod b 1000003 := by rw [hd, if_neg (by omega)]
    clear hE hh0 hd
    go_enter Tryz.func28, Tryz.ntmps28
    go_wp2_with fail
    clear hconv
    go_loop [5, 17] (fun sh si => ∃ (h : Int) (i : Nat), sh = .int .i64 h ∧ si = .int .i64 (i : Int) ∧ i ≤ s.length ∧ (0 ≤ h ∧ h < 1000003) ∧ Hid (Rg.sumF h (s.drop i) = E)) (fun _ si => s.length - (intOf si).toNat)
    case atStart => exact ⟨_, 0, rfl, rfl, Nat.zero_le _, hin, HE.out⟩
    case round =>
      obtain ⟨h, i, rfl, rfl, hi, hh, hc⟩ := hrel
      by_cases hlt : i < s.length
      · have hstep := hc.out
        rw [sumF_step hlt] at hstep
        have hnx := Rg.step_in h s[i]
        have hby := s[i].toNat_lt
        have k1 : (Lib.bytesWorld w 5 ⟨s.toArray⟩).cell? ⟨w.heap.size, i, none⟩ = some (.int .u8 (s[i].toNat : Int)) := by
          rw [Lib.bytesWorld_cell w _ _ i (by simpa [ByteArray.size] using hlt)]
          simp [hlt]
        have HS := Lib.hid hstep
        have HNX := Lib.hid hnx
        clear hstep hc HE hnx hin hs hm hm2
        go_wp2
        go_round
        case rel => exact ⟨_, i + 1, by go_num, by go_num, by omega, HNX.out, HS.out⟩
        case measure => simp [intOf]; omega
      · obtain rfl : i = s.length := by omega
        have hfin := hc.out
        rw [List.drop_length] at hfin
        obtain rfl : h = E := hfin
        clear hc HE
        go_wp2
        go_ret
        exact ⟨rfl, below_bytes w _ _⟩
end Go.Proofs.Wk
/- REGISTERS OF LOTS: journals. -/
namespace Rg
theorem allF_right : ∀ {es : List En} {out : List Lt} {i : Nat}, (allF out i es).2.2 = 0 → ∀ x ∈ es, rightE x = 0
  | [], _, _, _, x, hx => by cases hx
  | y :: ys, out, i, h, x, hx => by
    unfold allF at h
    by_cases h1 : rightE y = 0
    · rw [if_neg (Decidable.not_not.2 h1)] at h
      by_cases h2 : (doneL out y).2 = 0
      · rw [if_neg (Decidable.not_not.2 h2)] at h
        rcases List.mem_cons.1 hx with rfl | hx
        · exact h1
        · exact allF_right h x hx
      · rw [if_pos h2] at h; exact absurd h h2
    · rw [if_pos h1] at h; exact absurd h h1
theorem allL_right {es : List En} (h : (allL es).2.2 = 0) : ∀ x ∈ es, rightE x = 0 := by
  unfold allL at h
  split at h
  · cases h
  · exact allF_right h
def lineF (h : Int) (x : En) : Txt := Go.Lib.itoa (sumL h (writ x)) ++ 32 :: (writ x ++ [10])
def linesF : Int → List En → Txt
  | _, [] => []
  | h, x :: xs => lineF h x ++ linesF (sumL h (writ x)) xs
/-- The journal of few entries, and an error's number. -/
def journL (es : List En) : Txt × Int := if (allL es).2.2 ≠ 0 then ([], (allL es).2.2) else (linesF 1 es, 0)
theorem itoa_len {n : Int} (h0 : 0 ≤ n) (h1 : n < 10000000) : (Go.Lib.itoa n).length ≤ 7 := by
  unfold Go.Lib.itoa
  rw [if_neg (by omega)]
  exact dec_len 7 _ (by omega) (by omega)
end Rg
namespace Go.Proofs.Wk
open Go.RowKit Mt

theorem linesF_step {es : List Rg.En} {h : Int} {i : Nat} (hi : i < es.length) : Rg.linesF h (es.drop i) = Rg.lineF h es[i] ++ Rg.linesF (Rg.sumL h (Rg.writ es[i])) (es.drop (i + 1)) := by
  rw [List.drop_eq_getElem_cons hi, Rg.linesF]
set_option maxRecDepth 100000 in
theorem Len_c (B b : Nat) (l : Txt) (w : World) (h : Bld B b l w) : Calls Tryz.prog 31 #[.pointer (some ⟨b, 0, none⟩)] w (Pur w (.int .i64 (l.length : Int))) := by
  have hbl : (Lib.byteCells l).length = l.length := Lib.byteCells_length l
  have : ∃ p a cap, w.heap[b]? = some (.cells #[p, .slice a l.length cap] 69 (0, 0)) := by
    rcases h with ⟨-, v, hb, hown, -⟩ | ⟨-, v, hb, hown, -⟩
    all_goals
      rw [hbl] at hown
      rcases hown.2 with ⟨rfl, h0⟩ | ⟨g, cap, cur, fz, rfl, -⟩
      · exact ⟨_, none, 0, by rw [hb, h0]⟩
      · exact ⟨_, _, cap, hb⟩
  obtain ⟨p, a, cap, hb⟩ := this
  have c1 : w.cell? ⟨b, 1, none⟩ = some (.slice a l.length cap) := by rw [Lib.cell_of_heap hb]; rfl
  clear h hb hbl
  go_enter Tryz.func31, Tryz.ntmps31
  go_wp2
  go_ret
  exact ⟨rfl, rfl⟩
set_option maxRecDepth 100000 in
set_option maxHeartbeats 4000000 in
theorem Journal_c {v : Value} (es : List Rg.En) (w : World) (hg : Good w) (S : SlX w v es) (hln : es.length ≤ 140737488355328) (hn : ∀ x ∈ es, x.lot.length ≤ 140737488355328) (hfew : es.length ≤ 20 ∨ 4096 < es.length) :
    Calls Tryz.prog 10 #[v] w (Ret w (ans2 (Rg.journL es))) := by
  have HA := Lib.hid (All_c es w S hln hn)
  have hE : Rg.journL es = if (Rg.allL es).2.2 ≠ 0 then ([], (Rg.allL es).2.2) else (Rg.linesF 1 es, 0) := rfl
  have hri := Rg.allL_right (es := es)
  have hmany : 4096 < es.length → (Rg.allL es).2.2 = 5 := fun h => by unfold Rg.allL; rw [if_pos h]
  generalize Rg.journL es = E at *
  generalize Rg.allL es = R at *
  obtain ⟨rl, rn, rc⟩ := R
  simp only at hE hri hmany
  by_cases hc : rc = 0
  rotate_left
  · obtain rfl : E = ([], rc) := by rw [hE, if_pos hc]
    have y1 : (rc != 0) = true := bne_iff_ne.2 hc
    clear hE hri hmany hc hfew hln hn S
    go_enter Tryz.func10, Tryz.ntmps10
    go_wp2_with fail
    ((with_reducible refine HA.out.mono ?_); rintro e w1 ⟨v1, rfl, -, hb1⟩)
    go_wp2
    go_ret2
    exact ⟨rfl, hb1⟩
  subst hc
  obtain rfl : E = (Rg.linesF 1 es, 0) := by rw [hE, if_neg (by simp)]
  have hle : es.length ≤ 20 := by
    rcases hfew with h | h
    · exact h
    · have := hmany h; omega
  have hri := hri rfl
  obtain ⟨L, hL⟩ : ∃ L, Rg.linesF 1 (es.drop 0) = L := ⟨_, rfl⟩
  rw [show Rg.linesF 1 es = L from hL]
  have hst : ∀ i (hi : i < es.length) W, Good W → Calls Tryz.prog 27 #[entV es[i]] W (Ret W (ans2 (Rg.writ es[i], 0))) := fun i hi W hW => by
    have := Text_c es[i] W hW (hn _ (List.getElem_mem hi))
    rwa [show Rg.textL es[i] = (Rg.writ es[i], 0) by unfold Rg.textL; rw [if_neg (Decidable.not_not.2 (hri _ (List.getElem_mem hi)))]] at this
  have hwl : ∀ i (hi : i < es.length), (Rg.writ es[i]).length ≤ 40 := fun i hi => Rg.writ_len (hri _ (List.getElem_mem hi))
  have HT := Lib.hid hst
  have HWL := Lib.hid hwl
  have HL := Lib.hid hL
  have HG := Lib.hid hg
  clear hE hri hmany hfew hln hn hst hwl hL hg
  rcases S with ⟨a, cap, rfl, rfl⟩ | ⟨b, off, cap, rfl, hR, hb⟩
  · obtain rfl : [] = L := HL.out
    go_enter Tryz.func10, Tryz.ntmps10
    go_wp2_with fail
    ((with_reducible refine HA.out.mono ?_); rintro e w1 ⟨v1, rfl, -, hb1⟩)
    have hbl := Bld.fresh w1
    have hB1 : Below w.heap.size w (w1.alloc (.cells #[.pointer none, .slice none 0 0] 69)) := hb1.alloc hb1.size _
    have hsz := Nat.le_of_lt (alloc_lt w1 (.cells #[.pointer none, .slice none 0 0] 69))
    go_wp2_with fail
    refine wp_loop_rounds 1 ?_
    rw [rounds_succ]
    generalize w1.alloc (.cells #[.pointer none, .slice none 0 0] 69) = W at *
    go_wp2_with fail
    ((with_reducible refine (Len_c _ _ _ _ hbl).mono ?_); rintro e w2 ⟨rfl, rfl⟩)
    go_wp2_with fail
    refine (Tryz.Builder_String_any_k w1.heap.size w1.heap.size _ _ hbl hsz).mono ?_
    rintro e w3 ⟨rfl, -, hbl3, -⟩
    go_wp2
    go_ret2
    exact ⟨rfl, hB1.trans (hbl3.mono hb1.size)⟩
  · go_enter Tryz.func10, Tryz.ntmps10
    go_wp2_with fail
    ((with_reducible refine HA.out.mono ?_); rintro e w1 ⟨v1, rfl, -, hb1⟩)
    have hbl := Bld.fresh w1
    have hB1 : Below w.heap.size w (w1.alloc (.cells #[.pointer none, .slice none 0 0] 69)) := hb1.alloc hb1.size _
    have hsz := Nat.le_of_lt (alloc_lt w1 (.cells #[.pointer none, .slice none 0 0] 69))
    have hwb := hb1.size
    obtain ⟨B, hBB⟩ : ∃ B, w1.heap.size = B := ⟨_, rfl⟩
    rw [hBB] at hbl hsz hwb
    go_wp2_with fail
    (try rw [hBB])
    have HR := Lib.hid hR
    have HBL := Lib.hid hbl
    have HB1 := Lib.hid hB1
    have HSZ := Lib.hid hsz
    clear hR hbl hB1 hsz hb1
    generalize w1.alloc (.cells #[.pointer none, .slice none 0 0] 69) = W at *
    go_loopw [8, 24] (fun sh si wr => ∃ (h : Int) (i : Nat) (l : Txt), sh = .int .i64 h ∧ si = .int .i64 (i : Int) ∧ i ≤ es.length ∧ (0 ≤ h ∧ h < 1000003) ∧ l.length ≤ 60 * i ∧ Hid (l ++ Rg.linesF h (es.drop i) = L) ∧ Hid (Bld B B l wr) ∧ Hid (B ≤ wr.heap.size) ∧ Hid (Below w.heap.size w wr)) (fun _ si _ => es.length - (intOf si).toNat)
    case atStart => exact ⟨1, 0, [], rfl, rfl, Nat.zero_le _, by omega, by simp, HL.out, HBL.out, HSZ.out, HB1.out⟩
    case round =>
      obtain ⟨h, i, l, rfl, rfl, hi, hh, hl, hc, hbl, hbs, hB⟩ := hrel
      by_cases hlt : i < es.length
      · obtain ⟨k0, k1, k2⟩ := (HR.out.later hB.out hb).ent hlt
        have hstep := hc.out
        rw [linesF_step hlt] at hstep
        have HTI := Lib.hid (fun W hW => HT.out i hlt W hW)
        have hwl := HWL.out i hlt
        have hline : Rg.lineF h es[i] = Lib.itoa (Rg.sumL h (Rg.writ es[i])) ++ 32 :: (Rg.writ es[i] ++ [10]) := rfl
        generalize Rg.lineF h es[i] = V3 at *
        generalize Rg.writ es[i] = U0 at *
        generalize es[i] = x at *
        obtain ⟨k, lot, n⟩ := x
        simp only at k0 k1 k2
        have hsin := Rg.sumL_in h U0
        have HSM := Lib.hid (fun W => Sum_c h U0 W (by omega))
        generalize Rg.sumL h U0 = h2 at *
        have HI := Lib.hid (fun W hW => Itoa_c h2 W hW (by omega) (by omega))
        have htl := Rg.itoa_len hsin.1 (by omega)
        generalize Lib.itoa h2 = tn at *
        obtain ⟨V1, q1⟩ : ∃ V1 : Txt, tn ++ [32] = V1 := ⟨_, rfl⟩
        obtain ⟨V2, q2⟩ : ∃ V2 : Txt, V1 ++ U0 = V2 := ⟨_, rfl⟩
        have q3 : V2 ++ [10] = V3 := by rw [hline, ← q2, ← q1]; simp
        have l1 : V1.length ≤ 8 := by rw [← q1, List.length_append, List.length_cons]; simp only [List.length_nil]; omega
        have l2 : V2.length ≤ 48 := by rw [← q2, List.length_append]; omega
        have l3 : V3.length ≤ 49 := by rw [← q3, List.length_append, List.length_cons]; simp only [List.length_nil]; omega
        have g1 : ∀ W, (Op.stringOp .add ⟨tn.toArray⟩ ⟨#[32]⟩).run Tryz.prog W = .ok (.string ⟨V1.toArray⟩) W := fun W => by rw [← q1]; exact cat_run tn [32] (by simp only [List.length_cons, List.length_nil]; omega) W
        have g2 : ∀ W, (Op.stringOp .add ⟨V1.toArray⟩ ⟨U0.toArray⟩).run Tryz.prog W = .ok (.string ⟨V2.toArray⟩) W := fun W => by rw [← q2]; exact cat_run V1 U0 (by omega) W
        have g3 : ∀ W, (Op.stringOp .add ⟨V2.toArray⟩ ⟨#[10]⟩).run Tryz.prog W = .ok (.string ⟨V3.toArray⟩) W := fun W => by rw [← q3]; exact cat_run V2 [10] (by simp only [List.length_cons, List.length_nil]; omega) W
        have HST := Lib.hid (show (l ++ V3) ++ Rg.linesF h2 (es.drop (i + 1)) = L by rw [List.append_assoc]; exact hstep)
        have HLL := Lib.hid (show (l ++ V3).length ≤ 60 * (i + 1) by rw [List.length_append]; omega)
        have HSI := Lib.hid hsin
        have J := BX.new wr #[.int .i64 k, .string ⟨lot.toArray⟩, .int .i64 n] 28
        clear hstep hc HL HT HWL hline q1 q2 q3 l1 l2 htl hwl hsin HBL HB1 HSZ HA
        go_wp2_with fail
        ((with_reducible refine (HTI.out _ (HG.out.later (hB.out.trans (J.w.mono hB.out.size)))).mono ?_); rintro e w2 ⟨rfl, hb2⟩)
        have a2 := Lib.hid (J.w.trans (hb2.mono J.w.size))
        clear J hb2
        go_wp2_with fail
        ((with_reducible refine (HSM.out _).mono ?_); rintro e w3 ⟨rfl, hb3⟩)
        have a3 := Lib.hid (a2.out.trans (hb3.mono a2.out.size))
        clear hb3
        go_wp2_with fail
        ((with_reducible refine (HI.out _ (HG.out.later (hB.out.trans (a3.out.mono hB.out.size)))).mono ?_); rintro e w4 ⟨rfl, hb4⟩)
        have a4 := Lib.hid (a3.out.trans (hb4.mono a3.out.size))
        clear hb4
        go_wp2_with fail
        refine (WriteString_c B B l V3 _ (hbl.out.later a4.out) (by omega) (by omega) (Nat.le_trans hbs.out a4.out.size)).mono ?_
        rintro e w5 ⟨rfl, hb5, hbl5⟩
        have HB5 := Lib.hid hb5
        have a5 := Lib.hid ((hB.out.trans (a4.out.mono hB.out.size)).trans (hbl5.mono hwb))
        have s5 := Lib.hid (show B ≤ w5.heap.size from Nat.le_trans (Nat.le_trans hbs.out a4.out.size) hbl5.size)
        clear hb5 hbl5 g1 g2 g3
        go_wp2
        go_roundw
        case rel => exact ⟨h2, i + 1, l ++ V3, by go_num, by go_num, by omega, HSI.out, HLL.out, HST.out, HB5.out, s5.out, a5.out⟩
        case measure => simp [intOf]; omega
      · obtain rfl : i = es.length := by omega
        have hfin := hc.out
        rw [List.drop_length, Rg.linesF, List.append_nil] at hfin
        obtain rfl : l = L := hfin
        clear hc HL HT HWL HBL HB1 HSZ HA
        go_wp2_with fail
        ((with_reducible refine (Len_c _ _ _ _ hbl.out).mono ?_); rintro e w2 ⟨rfl, rfl⟩)
        go_wp2_with fail
        refine (Tryz.Builder_String_any_k B B _ _ hbl.out hbs.out).mono ?_
        rintro e w3 ⟨rfl, -, hbl3, -⟩
        have a3 := Lib.hid (hB.out.trans (hbl3.mono hwb))
        clear hbl3
        go_wp2
        go_ret2
        exact ⟨rfl, a3.out⟩
end Go.Proofs.Wk
/- REGISTERS OF LOTS: the reference's Digits, words, Written. -/
namespace Go.Proofs.Wk
open Go.RowKit Mt

theorem dig_cut {N : Nat} (h : N < 10) : List.take 1 (List.drop N [(48 : UInt8), 49, 50, 51, 52, 53, 54, 55, 56, 57]) = [UInt8.ofNat (48 + N)] := by
  match N, h with
  | 0, _ => rfl
  | 1, _ => rfl
  | 2, _ => rfl
  | 3, _ => rfl
  | 4, _ => rfl
  | 5, _ => rfl
  | 6, _ => rfl
  | 7, _ => rfl
  | 8, _ => rfl
  | 9, _ => rfl
abbrev wordsC : Array Value := #[.string ⟨#[111, 112, 101, 110]⟩, .string ⟨#[112, 97, 115, 115]⟩, .string ⟨#[114, 101, 106, 101, 99, 116]⟩, .string ⟨#[99, 111, 110, 99, 101, 100, 101]⟩, .string ⟨#[115, 99, 114, 97, 112]⟩, .string ⟨#[99, 108, 111, 115, 101]⟩, .string ⟨#[115, 104, 105, 112]⟩]
def WordsP (w : World) (e : Ending) (w' : World) : Prop := e = .returned (.slice (some ⟨w.heap.size, 0, none⟩) 7 7) ∧ w'.heap[w.heap.size]? = some (.cells wordsC 9 (0, 0)) ∧ Below w.heap.size w w'
theorem words_cell {w : World} {b : Nat} {T : TypeId} {fr : Nat × Nat} (h : w.heap[b]? = some (.cells wordsC T fr)) {k : Nat} (hk : k < 7) : w.cell? ⟨b, k, none⟩ = some (.string ⟨(Rg.wordK k).toArray⟩) := by
  rw [cell_of_row _ _ _ _ _ _ h]
  match k, hk with
  | 0, _ => rfl
  | 1, _ => rfl
  | 2, _ => rfl
  | 3, _ => rfl
  | 4, _ => rfl
  | 5, _ => rfl
  | 6, _ => rfl
end Go.Proofs.Wk
