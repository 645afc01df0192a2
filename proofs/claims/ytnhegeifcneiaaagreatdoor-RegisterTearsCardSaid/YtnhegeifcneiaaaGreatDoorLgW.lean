/- THE LAW RegisterTears: the walk, where a journal was torn. -/
import Derived.Test.YtnhegeifcneiaaaGreatDoorLgU
namespace Go.Proofs.Wk
open Go.RowKit Mt

theorem tear_nums (n : Int) (l m : Nat) (hn : 0 ≤ n ∧ n ≤ 65535) (hl : l ≤ 60 * 20) (hm : n.toNat % (l + 1) = m) (hml : m ≤ l) :
    wrap64 ((l : Int) + 1) = (l : Int) + 1 ∧ (l : Int) + 1 ≠ 0 ∧ n.tmod ((l : Int) + 1) = (m : Int) ∧ wrap64 n = n ∧ wrap64 (m : Int) = (m : Int) ∧ (0 : Int) ≤ (m : Int) ∧ (m : Int) ≤ (l : Int) := by
  refine ⟨by unfold wrap64; omega, by omega, ?_, by unfold wrap64; omega, by unfold wrap64; omega, by omega, by omega⟩
  rw [Int.tmod_eq_emod_of_nonneg hn.1]
  obtain ⟨q, rfl⟩ : ∃ q : Nat, n = q := ⟨n.toNat, by omega⟩
  rw [Int.toNat_natCast] at hm
  rw [← hm]
  rfl
theorem tear_part (L p : Txt) (m : Nat) (hp : L.take m = p) (hl : L.length ≤ 60 * 20) : p.length ≤ 1200 := by rw [← hp, List.length_take]; omega
theorem tear_ends (e p : Nat) (h : e ≤ p) (hp : p ≤ 1200) : wrap64 (e : Int) = (e : Int) ∧ (0 : Int) ≤ (e : Int) ∧ (e : Int) ≤ (p : Int) := by
  refine ⟨by unfold wrap64; omega, by omega, by omega⟩
theorem tear_cnt (k l c : Nat) (h : k ≤ l) (hc : l ≤ c) : ¬ ((l : Int) < (k : Int)) ∧ ((k : Int) ≤ (c : Int)) ∧ ((0 : Int) ≤ (k : Int)) := by
  refine ⟨by omega, by omega, by omega⟩
set_option maxRecDepth 100000 in
set_option maxHeartbeats 8000000 in
theorem tears_main {a : Option Addr} {cp : Nat} (es : List Rg.En) (n : Int) (w : World) (hg : GoodS w) (S : SlX w (.slice a es.length cp) es) (hcp : es.length ≤ cp) (hle : es.length * 32 ≤ 140737488355328) (hne : ∀ x ∈ es, x.lot.length ≤ 140737488355328) (h20 : es.length ≤ 20) (hf : fewE es = true) (hj : (Rg.journL es).2 = 0) (hn : 0 ≤ n ∧ n ≤ 65535) :
    Calls Tryz.prog 6 #[.slice a es.length cp, .int .u16 n] w (Ret w (.bool true)) := by
  have ha : (Rg.allL es).2.2 = 0 := by
    unfold Rg.journL at hj
    split at hj
    · rename_i q; exact absurd hj q
    · rename_i q; exact Decidable.not_not.1 q
  have hJL : Rg.journL es = (Rg.linesF 1 es, 0) := by unfold Rg.journL; rw [if_neg (by rw [ha]; simp)]
  have hll := Rg.lines_le es 1 (Rg.allL_right ha)
  obtain ⟨hw1, hw2⟩ := Rg.whole_load ha h20
  obtain ⟨m, hm⟩ : ∃ m : Nat, n.toNat % ((Rg.linesF 1 es).length + 1) = m := ⟨_, rfl⟩
  have hml : m ≤ (Rg.linesF 1 es).length := by have := Nat.mod_lt n.toNat (show 0 < (Rg.linesF 1 es).length + 1 by omega); omega
  obtain ⟨t1, t2, t3, t4, t5⟩ := Rg.torn_load ha h20 hml
  have hal := allL_le es
  have HG := Lib.hid (fun W (hb : Below w.heap.size w W) => hg.later hb)
  have HA := Lib.hid (fun W (hW : GoodS W) => awake_c W hW.g)
  have HE := Lib.hid (fun W S => entries_c (v := .slice a es.length cp) es W S hle)
  have HF := Lib.hid (fun u W (S : SlX W u es) => by have := Few_g es W S (by omega); rwa [hf] at this)
  have HJ := Lib.hid (fun W (hW : GoodS W) S => by have := Journal_c (v := .slice a es.length cp) es W hW.g S (by omega) hne (.inl h20); rwa [hJL] at this)
  have HAL := Lib.hid (fun W S => All_c (v := .slice a es.length cp) es W S (by omega) hne)
  have HLD := Lib.hid (fun W hW => by have := Load_c (Rg.linesF 1 es) W hW (by omega); rwa [hw1] at this)
  have HLT := Lib.hid (fun a W (S : SlX W a (Rg.allL es).1) => lots_c (Rg.allL es).1 W S (by omega))
  have HSM := Lib.hid (fun a b W (S : SlX W a (Rg.allL es).1) (T : SlX W b (Rg.allL es).1) => by have := Same_c (Rg.allL es).1 (Rg.allL es).1 W S T (by omega) (by omega); rwa [decide_eq_true rfl] at this)
  have HRP := Lib.hid (fun W hW => by have := Repair_c (Rg.linesF 1 es) W hW (by omega); rwa [hw2] at this)
  have HS := Lib.hid S
  have hla : (Rg.allL es).2.2 = 0 := ha
  generalize Rg.linesF 1 es = L at *
  obtain ⟨dw, dz, dm, wn, wm, m0, m1⟩ := tear_nums n L.length m hn (Nat.le_trans hll (Nat.mul_le_mul_left 60 h20)) hm hml
  obtain ⟨p, hp⟩ : ∃ p, L.take m = p := ⟨_, rfl⟩
  have hpl : p.length ≤ 1200 := tear_part L p m hp (Nat.le_trans hll (Nat.mul_le_mul_left 60 h20))
  rw [hp] at t1 t2 t3 t4 t5
  have hle2 := Rg.lastE_le p
  have HRQ := Lib.hid (fun W hW => Repair_c p W hW (by omega))
  have HCN := Lib.hid (fun W => Count_c p W)
  have HLX := Lib.hid (fun W => LastIndex_c p W (by omega))
  have HJK := Lib.hid (fun W (hW : GoodS W) (S : SlX W (.slice a (Rg.cnt p) cp) (es.take (Rg.cnt p))) => by
    have := Journal_c (v := .slice a (Rg.cnt p) cp) (es.take (Rg.cnt p)) W hW.g S (by rw [List.length_take]; omega) (fun x hx => hne x (List.mem_of_mem_take hx)) (.inl (by rw [List.length_take]; omega))
    rwa [t3] at this)
  have HSK := Lib.hid (fun W (S : SlX W (.slice a es.length cp) es) => S.part (k := Rg.cnt p) t1)
  have HLP := Lib.hid (fun W hW => Load_c p W hW (by omega))
  obtain ⟨lw, l0, l1⟩ := tear_ends (Rg.lastE p) p.length hle2 hpl
  obtain ⟨k1, k2, k0⟩ := tear_cnt (Rg.cnt p) es.length cp t1 hcp
  have i1 : ¬ (20 : Int) < (es.length : Int) := by omega
  generalize Rg.repairL p = lf at *
  generalize Rg.loadL p = RL at *
  generalize Rg.lastE p = le at *
  generalize Rg.cnt p = k at *
  generalize Rg.allL es = R at *
  obtain ⟨al, an, ac⟩ := R
  obtain ⟨pl, pn, pc⟩ := RL
  dsimp only at hla HLD HAL HLT HSM HLP t4 t5
  subst hla t4
  have t2' : List.take le p = lf := t2.symm
  have HTT := Lib.hid t2'
  have T5 := Lib.hid t5
  clear ha hJL hw1 hw2 hj hf hal hg hle hne t1 t2 t2' t3 t5 hle2 hpl hll hm hml hn hcp h20 S
  go_enter Tryz.func6, Tryz.ntmps6
  go_wp2_with fail
  ((with_reducible refine (HE.out _ HS.out).mono ?_); rintro e w1 ⟨v1, rfl, s1, b1⟩)
  have B1 := Lib.hid b1
  have S1 := Lib.hid (HS.out.later b1)
  go_wp2_with fail
  ((with_reducible refine (HF.out _ _ s1).mono ?_); rintro e w2 ⟨rfl, rfl⟩)
  clear b1 s1 HS HE HF
  go_wp2_with fail
  ((with_reducible refine (HJ.out _ (HG.out _ B1.out) S1.out).mono ?_); rintro e w3 ⟨rfl, b3⟩)
  have B3 := Lib.hid (B1.out.trans (b3.mono B1.out.size))
  have S3 := Lib.hid (S1.out.later b3)
  clear b3 B1 S1 HJ
  go_wp2_with fail
  ((with_reducible refine (HAL.out _ S3.out).mono ?_); rintro e w4 ⟨v4, rfl, s4, b4⟩)
  have B4 := Lib.hid (B3.out.trans (b4.mono B3.out.size))
  have S4 := Lib.hid (S3.out.later b4)
  have T4 := Lib.hid s4
  clear b4 B3 S3 HAL s4
  go_wp2_with fail
  ((with_reducible refine (HLD.out _ (HG.out _ B4.out)).mono ?_); rintro e w5 ⟨v5, rfl, s5, b5⟩)
  have B5 := Lib.hid (B4.out.trans (b5.mono B4.out.size))
  have S5 := Lib.hid (S4.out.later b5)
  have T5a := Lib.hid (T4.out.later b5)
  have T5b := Lib.hid s5
  clear b5 B4 S4 HLD s5 T4
  go_wp2_with fail
  ((with_reducible refine (HLT.out _ _ T5b.out).mono ?_); rintro e w6 ⟨v6, rfl, s6, b6⟩)
  have B6 := Lib.hid (B5.out.trans (b6.mono B5.out.size))
  have S6 := Lib.hid (S5.out.later b6)
  have T6a := Lib.hid (T5a.out.later b6)
  have T6b := Lib.hid s6
  clear b6 B5 S5 s6 T5a T5b
  go_wp2_with fail
  ((with_reducible refine (HLT.out _ _ T6a.out).mono ?_); rintro e w7 ⟨v7, rfl, s7, b7⟩)
  have B7 := Lib.hid (B6.out.trans (b7.mono B6.out.size))
  have S7 := Lib.hid (S6.out.later b7)
  have T7 := Lib.hid (T6b.out.later b7)
  have T7b := Lib.hid s7
  clear b7 B6 S6 s7 T6a T6b HLT
  go_wp2_with fail
  ((with_reducible refine (HSM.out _ _ _ T7.out T7b.out).mono ?_); rintro e w8 ⟨rfl, b8⟩)
  have B8 := Lib.hid (B7.out.trans (b8.mono B7.out.size))
  have S8 := Lib.hid (S7.out.later b8)
  clear b8 B7 S7 T7 T7b HSM
  go_wp2_with fail
  ((with_reducible refine (HRP.out _ (HG.out _ B8.out)).mono ?_); rintro e w9 ⟨rfl, b9⟩)
  have B9 := Lib.hid (B8.out.trans (b9.mono B8.out.size))
  have S9 := Lib.hid (S8.out.later b9)
  clear b9 B8 S8 HRP
  go_wp2_with fail
  ((with_reducible refine (HRQ.out _ (HG.out _ B9.out)).mono ?_); rintro e w10 ⟨rfl, b10⟩)
  have B10 := Lib.hid (B9.out.trans (b10.mono B9.out.size))
  have S10 := Lib.hid (S9.out.later b10)
  clear b10 B9 S9 HRQ dw dz dm wn wm m0 m1 hp
  go_wp2_with fail
  ((with_reducible refine (HCN.out _).mono ?_); rintro e w11 ⟨rfl, rfl⟩)
  clear HCN
  go_wp2_with fail
  ((with_reducible refine (HLX.out _).mono ?_); rintro e w12 ⟨rfl, rfl⟩)
  have tt := HTT.out
  have kn : ¬ es.length < k := by omega
  have kl : k ≤ es.length := by omega
  clear HLX
  go_wp2_with fail
  ((with_reducible refine (HJK.out _ (HG.out _ B10.out) (HSK.out _ S10.out)).mono ?_); rintro e w13 ⟨rfl, b13⟩)
  have B13 := Lib.hid (B10.out.trans (b13.mono B10.out.size))
  clear b13 B10 S10 HJK HSK lw l0 l1 k2
  go_wp2_with fail
  ((with_reducible refine (HLP.out _ (HG.out _ B13.out)).mono ?_); rintro e w14 ⟨v14, rfl, s14, b14⟩)
  have B14 := Lib.hid (B13.out.trans (b14.mono B13.out.size))
  clear b14 B13 s14 HLP
  rcases T5.out with ⟨rfl, f5⟩ | ⟨rfl, f5⟩
  · clear tt HTT
    subst f5
    go_wp2_with fail
    ((with_reducible refine (HA.out _ (HG.out _ B14.out)).mono ?_); rintro e w15 ⟨rfl, b15⟩)
    have B15 := Lib.hid (B14.out.trans (b15.mono B14.out.size))
    clear b15 B14
    go_wp2
    go_ret
    exact ⟨rfl, B15.out⟩
  · have f6 : (lf == p) = false := by rw [beq_eq_false_iff_ne]; exact f5
    clear tt HTT f5 T5
    go_wp2_with fail
    ((with_reducible refine (HA.out _ (HG.out _ B14.out)).mono ?_); rintro e w15 ⟨rfl, b15⟩)
    have B15 := Lib.hid (B14.out.trans (b15.mono B14.out.size))
    clear b15 B14
    go_wp2
    go_ret
    exact ⟨rfl, B15.out⟩
theorem tears_c {v : Value} (es : List Rg.En) (n : Int) (w : World) (hg : GoodS w) (S : SlX w v es) (hle : es.length * 32 ≤ 140737488355328) (hne : ∀ x ∈ es, x.lot.length ≤ 140737488355328) (hv : ∃ a len cap, v = .slice a len cap ∧ len ≤ cap) (hn : 0 ≤ n ∧ n ≤ 65535) :
    Calls Tryz.prog 6 #[v, .int .u16 n] w (Ret w (.bool true)) := by
  by_cases h20 : 20 < es.length
  · exact tears_out es n w hg S hle (.inl h20)
  · cases hf : fewE es with
    | false => exact tears_out es n w hg S hle (.inr ⟨h20, hf⟩)
    | true =>
      by_cases hj : (Rg.journL es).2 = 0
      · obtain ⟨a, len, cap, rfl, hc⟩ := hv
        have e : len = es.length := by
          rcases S with ⟨a', c', q, rfl⟩ | ⟨b, off, c', q, -, -⟩ <;> cases q <;> rfl
        subst e
        exact tears_main es n w hg S hc hle hne (Nat.le_of_not_lt h20) hf hj hn
      · exact tears_err es n w hg S hle hne (Nat.le_of_not_lt h20) hf hj
end Go.Proofs.Wk
