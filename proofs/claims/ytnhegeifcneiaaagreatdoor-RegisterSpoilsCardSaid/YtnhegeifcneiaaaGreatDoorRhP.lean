/- REGISTERS OF LOTS: the reference's begun. -/
import Derived.Test.YtnhegeifcneiaaaGreatDoorRhO
import Derived.Test.YtnhegeifcneiaaaGreatDoorKD
namespace Rg
open Go Go.Op Go.Lib
theorem insP_le : ∀ (l : List Lt) (nm : Txt), insP l nm ≤ l.length
  | [], _ => Nat.le_refl _
  | x :: xs, nm => by
    have := insP_le xs nm
    unfold insP; split <;> simp only [List.length_cons] <;> omega
theorem insP_lt : ∀ {l : List Lt} {nm : Txt} {i : Nat} (hi : i < l.length), i < insP l nm → bytesLess nm l[i].nm = false
  | x :: xs, nm, i, hi, h => by
    unfold insP at h
    split at h
    · omega
    · rename_i k
      cases i with
      | zero => simpa using k
      | succ i => simpa using insP_lt (l := xs) (nm := nm) (i := i) (by simpa using hi) (by omega)
theorem insP_at : ∀ {l : List Lt} {nm : Txt} (hi : insP l nm < l.length), bytesLess nm l[insP l nm].nm = true
  | [], _, hi => absurd hi (Nat.not_lt_zero _)
  | x :: xs, nm, hi => by
    by_cases k : bytesLess nm x.nm = true
    · have e : insP (x :: xs) nm = 0 := by unfold insP; rw [if_pos k]
      simp only [e]; exact k
    · have e : insP (x :: xs) nm = insP xs nm + 1 := by conv => lhs; unfold insP
                                                        rw [if_neg k]
      have h2 : insP xs nm < xs.length := by rw [e] at hi; simpa using hi
      simp only [e, List.getElem_cons_succ]
      exact insP_at h2
end Rg
namespace Go.Proofs.Wk
open Go.RowKit Mt

theorem ins_take0 {ls : List Rg.Lt} {p : Nat} (hp : p < ls.length) (nw : Rg.Lt) : (ls.take p ++ [nw]) ++ [ls[p]] = (ls.take p ++ nw :: ls.drop p).take (p + 2) := by
  rw [List.take_append, List.take_take, List.length_take, Nat.min_eq_left (Nat.le_of_lt hp), show p + 2 - p = 2 by omega, Nat.min_eq_right (show p ≤ p + 2 by omega), List.drop_eq_getElem_cons hp, List.append_assoc]
  rfl
theorem ins_take1 {ls : List Rg.Lt} {p i : Nat} (hp : p < i) (hi : i < ls.length) (nw : Rg.Lt) : (ls.take p ++ nw :: ls.drop p).take (i + 1) ++ [ls[i]] = (ls.take p ++ nw :: ls.drop p).take (i + 2) := by
  have hl : i + 1 < (ls.take p ++ nw :: ls.drop p).length := by rw [ins_len ls nw (by omega)]; omega
  rw [List.take_succ_eq_append_getElem hl]
  congr 2
  rw [List.getElem_append_right (by rw [List.length_take]; omega)]
  simp only [List.length_take, Nat.min_eq_left (show p ≤ ls.length by omega)]
  have : i + 1 - p = (i - p) + 1 := by omega
  simp only [this, List.getElem_cons_succ, List.getElem_drop]
  congr 1; omega
theorem new_row {w : World} {x : Rg.Lt} {T : TypeId} : ∀ j, j < Row.k Rg.Lt → (w.alloc (.cells (lotC x).toArray T)).cell? ⟨w.heap.size, j, none⟩ = (Row.enc x)[j]? := fun j _ => by
  rw [cell_of_row _ _ _ _ _ _ (heap_alloc_new w _)]; exact List.getElem?_toArray ..
theorem less_gt (a q : Txt) : (!Go.Op.bytesLess a q && !a == q) = Go.Op.bytesLess q a := by
  have := less_leq a q
  rw [← Bool.not_or, this, Bool.not_not]
set_option maxRecDepth 100000 in
set_option maxHeartbeats 4000000 in
theorem begun_c {v : Value} (ls : List Rg.Lt) (lot : Txt) (n : Int) (w : World) (S : SlX w v ls) (hl : Rg.chkE ls = 0) :
    Calls Tryz.prog 124 #[v, entV ⟨0, lot, n⟩] w (DoneP w (Rg.doneL ls ⟨0, lot, n⟩)) := by
  obtain ⟨hlen, -, hs⟩ := (Rg.chkE_iff ls).1 hl
  have hD1 := doneL_t (ls := ls) (x := ⟨0, lot, n⟩) rfl
  have hD2 := doneL_f (ls := ls) (x := ⟨0, lot, n⟩) rfl
  have hD3 := doneL_o (ls := ls) (x := ⟨0, lot, n⟩) rfl
  simp only at hD1 hD2 hD3
  have hpl := Rg.place_eq (nm := lot) hs
  have HP := Lib.hid (fun W S => Place_c ls lot W (v := v) S (by omega))
  have HS := Lib.hid S
  have J := BX.new w #[.int .i64 0, .string ⟨lot.toArray⟩, .int .i64 n] 30
  generalize Rg.doneL ls ⟨0, lot, n⟩ = D at *
  have hlv : ∃ a cap, v = .slice a ls.length cap := by
    rcases S with ⟨a, cap, rfl, rfl⟩ | ⟨b, off, cap, rfl, -⟩
    · exact ⟨a, cap, rfl⟩
    · exact ⟨_, cap, rfl⟩
  obtain ⟨va, vc, rfl⟩ := hlv
  cases hh : Rg.has ls lot with
  | true =>
    obtain rfl := hD1 hh
    rw [if_pos hh] at hpl
    rw [hpl] at HP
    generalize Rg.pos ls lot = p at *
    clear hD1 hD2 hD3 hl hs hh hpl S
    go_enter Tryz.func124, Tryz.ntmps124
    go_wp2_with fail
    ((with_reducible refine (HP.out _ (HS.out.later J.w)).mono ?_); rintro e w1 ⟨rfl, rfl⟩)
    go_wp2
    go_ret2
    exact ⟨_, rfl, .inl ⟨none, 0, rfl, rfl⟩, J.w⟩
  | false =>
    rw [if_neg (by rw [hh]; decide)] at hpl
    rw [hpl] at HP
    have hD2 := hD2 hh
    have hD3 := hD3 hh
    by_cases h256 : ls.length = 256
    · obtain rfl := hD2 h256
      have y1 : ((ls.length : Int) == 256) = true := by rw [h256]; rfl
      clear hD1 hD2 hD3 hl hs hh hpl S h256
      go_enter Tryz.func124, Tryz.ntmps124
      go_wp2_with fail
      ((with_reducible refine (HP.out _ (HS.out.later J.w)).mono ?_); rintro e w1 ⟨rfl, rfl⟩)
      go_wp2
      go_ret2
      exact ⟨_, rfl, .inl ⟨none, 0, rfl, rfl⟩, J.w⟩
    obtain rfl := hD3 h256
    have y1 : ((ls.length : Int) == 256) = false := beq_eq_false_iff_ne.2 (by omega)
    have hple := Rg.pos_le ls lot
    have hins := Rg.insP_eq (l := ls) (nm := lot) hh
    have hi1 := fun i hi => Rg.insP_lt (l := ls) (nm := lot) (i := i) hi
    have hi2 := Rg.insP_at (l := ls) (nm := lot)
    rw [hins] at hi1 hi2
    have H1 := Lib.hid hi1
    have H2 := Lib.hid hi2
    have HJ := Lib.hid J
    obtain ⟨d0, d1, d2⟩ := cell3 J.c
    clear hD1 hD2 hD3 hl hs hh hpl h256 hins hi1 hi2
    rw [show Rg.newLot ⟨0, lot, n⟩ = ⟨lot, n, 0, 0, 0, 0, 0⟩ from rfl]
    generalize Rg.pos ls lot = p at *
    obtain ⟨nw, hnw⟩ : ∃ nw : Rg.Lt, nw = ⟨lot, n, 0, 0, 0, 0, 0⟩ := ⟨_, rfl⟩
    rw [← hnw]
    have HNW := Lib.hid hnw
    clear hnw
    have hR0 : ∀ i (hi : i < ls.length) W, Below w.heap.size w W → ∃ b off, va = some ⟨b, off, none⟩ ∧ b < w.heap.size ∧ LotAt W b (off + i * 7) ls[i] := by
      rcases S with ⟨a, cap, e1, rfl⟩ | ⟨b, off, cap, e1, hR, hb⟩
      · intro i hi; exact absurd hi (Nat.not_lt_zero _)
      · intro i hi W hB
        cases e1
        obtain ⟨k0, k1, k2, k3, k4, k5, k6⟩ := (hR.later hB hb).lot hi
        exact ⟨b, off, rfl, hb, ⟨k0, k1, k2, k3, k4, k5, k6, Nat.lt_of_lt_of_le hb hB.size⟩⟩
    have HR := Lib.hid hR0
    clear hR0 S J
    go_enter Tryz.func124, Tryz.ntmps124
    go_wp2_with fail
    ((with_reducible refine (HP.out _ (HS.out.later HJ.out.w)).mono ?_); rintro e w1 ⟨rfl, rfl⟩)
    go_wp2_with fail
    generalize w.alloc (.cells #[.int .i64 0, .string ⟨lot.toArray⟩, .int .i64 n] 30) = W0 at *
    clear d0 d1 d2
    have hW0 : w.heap.size ≤ W0.heap.size := HJ.out.w.size
    go_loopw [6, 7, 8] (fun so sd si wr => ∃ (i : Nat) (d : Bool) (out : List Rg.Lt), sd = .bool d ∧ si = .int .i64 (i : Int) ∧ i ≤ ls.length ∧ Hid ((d = false ∧ i ≤ p ∧ out = ls.take i) ∨ (d = true ∧ p < i ∧ out = (ls.take p ++ nw :: ls.drop p).take (i + 1))) ∧ Hid (OwX 98 wr W0.heap.size so out) ∧ Hid (out.length ≤ 257) ∧ Hid (Below W0.heap.size W0 wr)) (fun _ _ si _ => ls.length - (intOf si).toNat)
    case atStart => exact ⟨0, false, [], rfl, rfl, Nat.zero_le _, .inl ⟨rfl, Nat.zero_le _, rfl⟩, OwX.nil _ _ _, (by simp : ([] : List Rg.Lt).length ≤ 257), Below.refl _ _⟩
    case round =>
      obtain ⟨i, d, out, rfl, rfl, hi, hst, hO, hol, hB⟩ := hrel
      have hBw : Below w.heap.size w wr := HJ.out.w.trans (hB.out.mono hW0)
      have hbx : wr.heap[w.heap.size]? = some (.cells #[.int .i64 0, .string ⟨lot.toArray⟩, .int .i64 n] 30 (0, 0)) := (hB.out.block _ (Array.getElem?_eq_some_iff.1 HJ.out.c).1).trans HJ.out.c
      obtain ⟨f0, f1, f2⟩ := cell3 hbx
      have HBX := Lib.hid hbx
      have HBW := Lib.hid hBw
      clear hbx
      by_cases hlt : i < ls.length
      · obtain ⟨b, off, e0, hbw, hx⟩ := HR.out i hlt wr hBw
        subst e0
        have HBL := Lib.hid (show b < W0.heap.size from Nat.lt_of_lt_of_le hbw hW0)
        have hlen1 : ∀ m : Nat, ((ls.take p ++ nw :: ls.drop p).take m).length ≤ 257 := fun m => by rw [List.length_take, ins_len ls nw hple]; omega
        have hlen2 : ∀ m : Nat, (ls.take m).length ≤ 256 := fun m => by rw [List.length_take]; omega
        clear hBw hbw
        rcases hst.out with ⟨rfl, hip, rfl⟩ | ⟨rfl, hip, rfl⟩
        · by_cases hp : i = p
          · have hg := H2.out (by omega)
            have hnext := ins_take0 (ls := ls) (p := p) (by omega) nw
            have hgi : (!Go.Op.bytesLess ls[i].nm lot && !ls[i].nm == lot) = true := by rw [less_gt]; subst hp; exact hg
            have hnx : (ls.take i ++ [nw]) ++ [ls[i]] = (ls.take p ++ nw :: ls.drop p).take (i + 1 + 1) := by subst hp; exact hnext
            have HNX := Lib.hid hnx
            have HL1 := Lib.hid (hlen1 (i + 1 + 1))
            have HL2 := Lib.hid (hlen2 i)
            clear hg hnext hnx hlen1 hlen2 hst
            subst hp
            generalize ls[i] = x at *
            obtain ⟨a0, a1, a2, a3, a4, a5, a6⟩ := x
            have HX := Lib.hid hx
            obtain ⟨k0, k1, k2, k3, k4, k5, k6, kl⟩ := hx
            simp only at k0 k1 k2 k3 k4 k5 k6 hgi
            clear kl
            go_wp2_with fail
            go_region

            go_wp2_with (first
              | (at_builtin; refine wpList_app_row rfl _ _ 43 98 rfl Tryz.underlying43 lotZ 64 (by decide) (by kernel_rfl) rfl W0.heap.size _ (ls.take i) rfl (hO.out.later (by first | exact (Below.refl _ _).alloc (Nat.le_refl _) _ | exact ((Below.refl _ _).alloc (Nat.le_refl _) _).drew)) _ nw rfl (by rw [HNW.out]; exact new_row (x := ⟨lot, n, 0, 0, 0, 0, 0⟩)) (by have := HL2.out; omega) (Nat.le_trans hB.out.size (Nat.le_of_lt (alloc_lt _ _))) ?_; intro v1 w1 ho1 hb1; have hb1' : Below W0.heap.size wr w1 := ⟨hb1.os, hb1.tape, hb1.output, Nat.le_trans (Nat.le_of_lt (alloc_lt wr _)) hb1.size, fun k hk => (hb1.block k hk).trans (heap_alloc_old wr _ (Nat.lt_of_lt_of_le hk hB.out.size))⟩; obtain ⟨m0, m1, m2, m3, m4, m5, m6, -⟩ := HX.out.below hb1' HBL.out)
              | (at_builtin; refine wpList_app_row rfl _ _ 43 98 rfl Tryz.underlying43 lotZ 64 (by decide) (by kernel_rfl) rfl W0.heap.size _ (ls.take i ++ [nw]) rfl (ho1.later (by first | exact (Below.refl _ _).alloc (Nat.le_refl _) _ | exact ((Below.refl _ _).alloc (Nat.le_refl _) _).drew)) _ (⟨a0, a1, a2, a3, a4, a5, a6⟩ : Rg.Lt) rfl (new_row (x := ⟨a0, a1, a2, a3, a4, a5, a6⟩)) (by have := HL2.out; rw [List.length_append, List.length_singleton]; omega) (Nat.le_trans (Nat.le_trans hB.out.size hb1'.size) (Nat.le_of_lt (alloc_lt _ _))) ?_; intro v2 w2 ho2 hb2; have hb2' : Below W0.heap.size w1 w2 := ⟨hb2.os, hb2.tape, hb2.output, Nat.le_trans (Nat.le_of_lt (alloc_lt w1 _)) hb2.size, fun k hk => (hb2.block k hk).trans (heap_alloc_old w1 _ (Nat.lt_of_lt_of_le hk (Nat.le_trans hB.out.size hb1'.size)))⟩))
            have HO2 := Lib.hid ho2
            have HB2 := Lib.hid (hB.out.trans (hb1'.trans hb2'))
            clear ho1 hb1 hb1' ho2 hb2 hb2' m0 m1 m2 m3 m4 m5 m6
            go_roundw
            case rel => exact ⟨i + 1, true, _, rfl, by go_num, by omega, .inr ⟨rfl, by omega, HNX.out⟩, HO2.out, by rw [HNX.out]; exact HL1.out, HB2.out⟩
            case measure => simp [intOf]; omega
          · have hgi : (!Go.Op.bytesLess ls[i].nm lot && !ls[i].nm == lot) = false := by rw [less_gt]; exact H1.out i hlt (by omega)
            have HNX := Lib.hid (List.take_succ_eq_append_getElem hlt).symm
            have HL1 := Lib.hid (hlen2 (i + 1))
            have HL2 := Lib.hid (hlen2 i)
            clear hlen1 hlen2 hst
            generalize ls[i] = x at *
            obtain ⟨a0, a1, a2, a3, a4, a5, a6⟩ := x
            have HX := Lib.hid hx
            obtain ⟨k0, k1, k2, k3, k4, k5, k6, kl⟩ := hx
            simp only at k0 k1 k2 k3 k4 k5 k6 hgi
            clear kl
            go_wp2_with fail
            go_region

            go_wp2_with (at_builtin; refine wpList_app_row rfl _ _ 43 98 rfl Tryz.underlying43 lotZ 64 (by decide) (by kernel_rfl) rfl W0.heap.size _ (ls.take i) rfl (hO.out.later (by first | exact (Below.refl _ _).alloc (Nat.le_refl _) _ | exact ((Below.refl _ _).alloc (Nat.le_refl _) _).drew)) _ (⟨a0, a1, a2, a3, a4, a5, a6⟩ : Rg.Lt) rfl (new_row (x := ⟨a0, a1, a2, a3, a4, a5, a6⟩)) (by have := HL2.out; omega) (Nat.le_trans hB.out.size (Nat.le_of_lt (alloc_lt _ _))) ?_; intro v1 w1 ho1 hb1; have hb1' : Below W0.heap.size wr w1 := ⟨hb1.os, hb1.tape, hb1.output, Nat.le_trans (Nat.le_of_lt (alloc_lt wr _)) hb1.size, fun k hk => (hb1.block k hk).trans (heap_alloc_old wr _ (Nat.lt_of_lt_of_le hk hB.out.size))⟩)
            have HO1 := Lib.hid ho1
            have HB1 := Lib.hid (hB.out.trans hb1')
            clear ho1 hb1 hb1'
            go_roundw
            case rel => exact ⟨i + 1, false, _, rfl, by go_num, by omega, .inl ⟨rfl, by omega, HNX.out⟩, HO1.out, by rw [HNX.out]; exact Nat.le_succ_of_le HL1.out, HB1.out⟩
            case measure => simp [intOf]; omega
        · have HNX := Lib.hid (ins_take1 hip hlt nw)
          have HL1 := Lib.hid (hlen1 (i + 2))
          have HL2 := Lib.hid (hlen1 (i + 1))
          have HL3 := Lib.hid (show ((ls.take p ++ nw :: ls.drop p).take (i + 1)).length ≤ 256 by rw [List.length_take]; omega)
          clear hlen1 hlen2 hst
          generalize ls[i] = x at *
          obtain ⟨a0, a1, a2, a3, a4, a5, a6⟩ := x
          have HX := Lib.hid hx
          obtain ⟨k0, k1, k2, k3, k4, k5, k6, kl⟩ := hx
          simp only at k0 k1 k2 k3 k4 k5 k6
          clear kl
          go_wp2_with fail
          go_region
          go_wp2_with (at_builtin; refine wpList_app_row rfl _ _ 43 98 rfl Tryz.underlying43 lotZ 64 (by decide) (by kernel_rfl) rfl W0.heap.size _ ((ls.take p ++ nw :: ls.drop p).take (i + 1)) rfl (hO.out.later (by first | exact (Below.refl _ _).alloc (Nat.le_refl _) _ | exact ((Below.refl _ _).alloc (Nat.le_refl _) _).drew)) _ (⟨a0, a1, a2, a3, a4, a5, a6⟩ : Rg.Lt) rfl (new_row (x := ⟨a0, a1, a2, a3, a4, a5, a6⟩)) (by have := HL3.out; omega) (Nat.le_trans hB.out.size (Nat.le_of_lt (alloc_lt _ _))) ?_; intro v1 w1 ho1 hb1; have hb1' : Below W0.heap.size wr w1 := ⟨hb1.os, hb1.tape, hb1.output, Nat.le_trans (Nat.le_of_lt (alloc_lt wr _)) hb1.size, fun k hk => (hb1.block k hk).trans (heap_alloc_old wr _ (Nat.lt_of_lt_of_le hk hB.out.size))⟩)
          have HO1 := Lib.hid ho1
          have HB1 := Lib.hid (hB.out.trans hb1')
          clear ho1 hb1 hb1'
          go_roundw
          case rel => exact ⟨i + 1, true, _, rfl, by go_num, by omega, .inr ⟨rfl, by omega, HNX.out⟩, HO1.out, by rw [HNX.out]; exact HL1.out, HB1.out⟩
          case measure => simp [intOf]; omega
      · obtain rfl : i = ls.length := by omega
        rcases hst.out with ⟨rfl, hip, rfl⟩ | ⟨rfl, hip, rfl⟩
        · obtain rfl : p = ls.length := by omega
          have hres : ls.take ls.length ++ [nw] = ls.take ls.length ++ nw :: ls.drop ls.length := by rw [List.drop_length]
          have HL2 := Lib.hid (show (ls.take ls.length).length ≤ 256 by rw [List.length_take]; omega)
          clear hst
          go_wp2_with (at_builtin; refine wpList_app_row rfl _ _ 43 98 rfl Tryz.underlying43 lotZ 64 (by decide) (by kernel_rfl) rfl W0.heap.size _ (ls.take ls.length) rfl (hO.out.later (by first | exact (Below.refl _ _).alloc (Nat.le_refl _) _ | exact ((Below.refl _ _).alloc (Nat.le_refl _) _).drew)) _ nw rfl (by rw [HNW.out]; exact new_row (x := ⟨lot, n, 0, 0, 0, 0, 0⟩)) (by have := HL2.out; omega) (Nat.le_trans hB.out.size (Nat.le_of_lt (alloc_lt _ _))) ?_; intro v1 w1 ho1 hb1; have hb1' : Below W0.heap.size wr w1 := ⟨hb1.os, hb1.tape, hb1.output, Nat.le_trans (Nat.le_of_lt (alloc_lt wr _)) hb1.size, fun k hk => (hb1.block k hk).trans (heap_alloc_old wr _ (Nat.lt_of_lt_of_le hk hB.out.size))⟩)
          have HO1 := Lib.hid ho1
          have HB1 := Lib.hid (HJ.out.w.trans ((hB.out.trans hb1').mono hW0))
          clear ho1 hb1 hb1'
          go_ret2
          exact ⟨_, rfl, by rw [← hres]; exact HO1.out.sl, HB1.out⟩
        · have hres : (ls.take p ++ nw :: ls.drop p).take (ls.length + 1) = ls.take p ++ nw :: ls.drop p := List.take_of_length_le (by rw [ins_len ls nw hple]; omega)
          have hO2 := hO.out
          rw [hres] at hO2
          have HO2 := Lib.hid hO2.sl
          clear hst hO2 hO hres
          go_wp2
          go_ret2
          exact ⟨_, rfl, HO2.out, HBW.out⟩
end Go.Proofs.Wk
