/- REGISTERS OF LOTS: Check. -/
import Derived.Test.YtmbbppiikpfkcaaGreatDoorKC
import Derived.WalkLawsBesides
import Derived.WalkSpells
import Derived.Outline
import Derived.Handy
import Derived.Deep.DeepCutAuto
import Derived.Deep.CutBlock
import Derived.Laws.EntriesVeiled
namespace Go.Proofs.Wk
open Go.RowKit Mt

def pv (ls : List Rg.Lt) (i : Nat) : Option Txt := if i = 0 then none else (ls[i - 1]?).map (·.nm)
theorem chk_step {ls : List Rg.Lt} {i : Nat} (hi : i < ls.length) : Rg.chkF (pv ls i) (ls.drop i) =
    (if Rg.nameE ls[i].nm ≠ 0 then Rg.nameE ls[i].nm else if ((pv ls i).map fun q => !Go.Op.bytesLess q ls[i].nm).getD false = true then 9 else if Rg.lotE ls[i] ≠ 0 then Rg.lotE ls[i] else Rg.chkF (pv ls (i + 1)) (ls.drop (i + 1))) := by
  rw [List.drop_eq_getElem_cons hi, Rg.chkF, show pv ls (i + 1) = some ls[i].nm by unfold pv; rw [if_neg (by omega)]; simp [hi]]
theorem less_leq (a q : Txt) : (Go.Op.bytesLess a q || a == q) = !Go.Op.bytesLess q a := by
  cases h : Go.Op.bytesLess a q with
  | true => rw [Rg.less_asymm h]; rfl
  | false =>
    by_cases e : a = q
    · subst e; rw [Rg.less_irrefl]; simp
    · rw [Rg.less_tri e h]; simp [e]
set_option maxRecDepth 100000 in
set_option maxHeartbeats 4000000 in
theorem rgCheck_c {v : Value} (ls : List Rg.Lt) (w : World) (S : SlX w v ls) (hn : ∀ x ∈ ls, x.nm.length ≤ 140737488355328) : Calls Tryz.prog 23 #[v] w (Ret w (.int .i64 (Rg.chkE ls))) := by
  rcases S with ⟨a, cap, rfl, rfl⟩ | ⟨b, off, cap, rfl, hR, hb⟩
  · go_enter Tryz.func23, Tryz.ntmps23
    go_wp2_with fail
    refine wp_loop_rounds 1 ?_
    rw [rounds_succ]
    go_wp2
    go_ret
    exact ⟨rfl, Below.refl _ _⟩
  by_cases h256 : 256 < ls.length
  · rw [show Rg.chkE ls = 5 by unfold Rg.chkE; rw [if_pos h256]]
    go_enter Tryz.func23, Tryz.ntmps23
    go_wp2
    go_ret
    exact ⟨rfl, Below.refl _ _⟩
  have hE : Rg.chkF (pv ls 0) (ls.drop 0) = Rg.chkE ls := by unfold Rg.chkE; rw [if_neg h256]; rfl
  generalize Rg.chkE ls = E at *
  have HE := Lib.hid hE
  have HR := Lib.hid hR
  have HN := Lib.hid hn
  clear hE hR hn
  go_enter Tryz.func23, Tryz.ntmps23
  go_wp2_with fail
  go_loopw [12] (fun si wr => ∃ i : Nat, si = .int .i64 (i : Int) ∧ i ≤ ls.length ∧ Hid (Rg.chkF (pv ls i) (ls.drop i) = E) ∧ Below w.heap.size w wr) (fun si _ => ls.length - (intOf si).toNat)
  case atStart => exact ⟨0, rfl, Nat.zero_le _, HE.out, Below.refl _ _⟩
  case round =>
    obtain ⟨i, rfl, hi, hc, hB⟩ := hrel
    by_cases hlt : i < ls.length
    · obtain ⟨k0, k1, k2, k3, k4, k5, k6⟩ := (HR.out.later hB hb).lot hlt
      have hstep := hc.out
      rw [chk_step hlt] at hstep
      have hnl := HN.out ls[i] (List.getElem_mem hlt)
      cases i with
      | zero =>
        rw [show ((pv ls 0).map fun q => !Go.Op.bytesLess q ls[0].nm).getD false = false from rfl, if_neg (show ¬ false = true by decide)] at hstep
        generalize ls[0] = x at *
        obtain ⟨nm, sz, gd, bd, cn, sc, st⟩ := x
        simp only [Nat.zero_mul, Nat.add_zero] at k0 k1 k2 k3 k4 k5 k6
        simp only at hstep hnl
        have H1 := Lib.hid (fun W => dname_c nm W hnl)
        have H2 := Lib.hid (fun W b o h => fits_c b o ⟨nm, sz, gd, bd, cn, sc, st⟩ W h)
        generalize Rg.nameE nm = e at *
        generalize Rg.lotE ⟨nm, sz, gd, bd, cn, sc, st⟩ = f at *
        have HX := Lib.hid (LotAt.box wr ⟨nm, sz, gd, bd, cn, sc, st⟩ 46)
        have hBx := hB.alloc hB.size (.cells #[.string ⟨nm.toArray⟩, .int .i64 sz, .int .i64 gd, .int .i64 bd, .int .i64 cn, .int .i64 sc, .int .i64 st] 46)
        have HS := Lib.hid hstep
        clear hstep hc hnl HE
        by_cases z1 : e = 0
        rotate_left
        · have y1 : (e != 0) = true := bne_iff_ne.2 z1
          have h5 := HS.out
          rw [if_pos z1] at h5
          subst h5
          clear z1 HS
          go_wp2_with fail
          ((with_reducible refine (H1.out _).mono ?_); rintro e w1 ⟨rfl, hb1⟩)
          have hB1 := hBx.trans (hb1.mono hBx.size)
          go_wp2
          go_ret
          exact ⟨rfl, hB1⟩
        subst z1
        have h6 := HS.out
        rw [if_neg (show ¬ (0 : Int) ≠ 0 by decide)] at h6
        have HS := Lib.hid h6
        clear h6
        by_cases z2 : f = 0
        rotate_left
        · have y2 : (f != 0) = true := bne_iff_ne.2 z2
          have h5 := HS.out
          rw [if_pos z2] at h5
          subst h5
          clear z2 HS
          go_wp2_with fail
          ((with_reducible refine (H1.out _).mono ?_); rintro e w1 ⟨rfl, hb1⟩)
          have hB1 := hBx.trans (hb1.mono hBx.size)
          have HX1 := HX.out.later hb1
          obtain ⟨c0, c1, c2, c3, c4, c5, c6, cl⟩ := id HX1
          simp only [Nat.zero_add] at c0 c1 c2 c3 c4 c5 c6
          have HX1 := Lib.hid HX1
          go_wp2_with fail
          go_quiet (fail)
          have HX2 := HX1.out.later (below_dN (Below.refl _ _) nq)
          have hB2 := below_dN hB1 nq
          go_wp2_with fail
          ((with_reducible refine (H2.out _ _ _ HX2).mono ?_); rintro e w2 ⟨rfl, hb2⟩)
          have hB3 := hB2.trans (hb2.mono hB2.size)
          go_wp2
          go_ret
          exact ⟨rfl, hB3⟩
        subst z2
        have h6 := HS.out
        rw [if_neg (show ¬ (0 : Int) ≠ 0 by decide)] at h6
        have HS := Lib.hid h6
        clear h6
        go_wp2_with fail
        ((with_reducible refine (H1.out _).mono ?_); rintro e w1 ⟨rfl, hb1⟩)
        have hB1 := hBx.trans (hb1.mono hBx.size)
        have HX1 := HX.out.later hb1
        obtain ⟨c0, c1, c2, c3, c4, c5, c6, cl⟩ := id HX1
        simp only [Nat.zero_add] at c0 c1 c2 c3 c4 c5 c6
        have HX1 := Lib.hid HX1
        go_wp2_with fail
        go_quiet (fail)
        have HX2 := HX1.out.later (below_dN (Below.refl _ _) nq)
        have hB2 := below_dN hB1 nq
        go_wp2_with fail
        ((with_reducible refine (H2.out _ _ _ HX2).mono ?_); rintro e w2 ⟨rfl, hb2⟩)
        have hB3 := hB2.trans (hb2.mono hB2.size)
        go_wp2
        go_roundw
        case rel => exact ⟨0 + 1, by go_num, by omega, HS.out, hB3⟩
        case measure => simp [intOf]; omega
      | succ k =>
        have hk : k < ls.length := by omega
        rw [show ((pv ls (k + 1)).map fun q => !Go.Op.bytesLess q ls[k + 1].nm).getD false = (Go.Op.bytesLess ls[k + 1].nm ls[k].nm || ls[k + 1].nm == ls[k].nm) by rw [less_leq]; unfold pv; rw [if_neg (by omega)]; simp [hk]] at hstep
        obtain ⟨q, hq⟩ : ∃ q, ls[k].nm = q := ⟨_, rfl⟩
        rw [hq] at hstep
        generalize ls[k + 1] = x at *
        obtain ⟨nm, sz, gd, bd, cn, sc, st⟩ := x
        simp only at k0 k1 k2 k3 k4 k5 k6 hstep hnl
        have H1 := Lib.hid (fun W => dname_c nm W hnl)
        have H2 := Lib.hid (fun W b o h => fits_c b o ⟨nm, sz, gd, bd, cn, sc, st⟩ W h)
        generalize Rg.nameE nm = e at *
        generalize Rg.lotE ⟨nm, sz, gd, bd, cn, sc, st⟩ = f at *
        have HX := Lib.hid (LotAt.box wr ⟨nm, sz, gd, bd, cn, sc, st⟩ 46)
        have hBx := hB.alloc hB.size (.cells #[.string ⟨nm.toArray⟩, .int .i64 sz, .int .i64 gd, .int .i64 bd, .int .i64 cn, .int .i64 sc, .int .i64 st] 46)
        have HS := Lib.hid hstep
        clear hstep hc hnl HE
        by_cases z1 : e = 0
        rotate_left
        · have y1 : (e != 0) = true := bne_iff_ne.2 z1
          have h5 := HS.out
          rw [if_pos z1] at h5
          subst h5
          clear z1 HS
          go_wp2_with fail
          ((with_reducible refine (H1.out _).mono ?_); rintro e w1 ⟨rfl, hb1⟩)
          have hB1 := hBx.trans (hb1.mono hBx.size)
          go_wp2
          go_ret
          exact ⟨rfl, hB1⟩
        subst z1
        have h6 := HS.out
        rw [if_neg (show ¬ (0 : Int) ≠ 0 by decide)] at h6
        have HS := Lib.hid h6
        clear h6
        obtain ⟨g, hg⟩ : ∃ g, (Go.Op.bytesLess nm q || nm == q) = g := ⟨_, rfl⟩
        rw [hg] at HS
        cases g with
        | true =>
          have h5 := HS.out
          rw [if_pos rfl] at h5
          subst h5
          clear HS
          go_wp2_with fail
          ((with_reducible refine (H1.out _).mono ?_); rintro e w1 ⟨rfl, hb1⟩)
          have hB1 := hBx.trans (hb1.mono hBx.size)
          have HX1 := HX.out.later hb1
          obtain ⟨c0, c1, c2, c3, c4, c5, c6, cl⟩ := id HX1
          simp only [Nat.zero_add] at c0 c1 c2 c3 c4 c5 c6
          have HX1 := Lib.hid HX1
          have q0 := ((HR.out.later hB1 hb).lot hk).1
          rw [hq] at q0
          go_wp2_with fail
          go_quiet (fail)
          go_wp2
          go_ret
          exact ⟨rfl, below_dN hB1 _⟩
        | false =>
          have h6 := HS.out
          rw [if_neg (show ¬ false = true by decide)] at h6
          have HS := Lib.hid h6
          clear h6
          by_cases z2 : f = 0
          rotate_left
          · have y2 : (f != 0) = true := bne_iff_ne.2 z2
            have h5 := HS.out
            rw [if_pos z2] at h5
            subst h5
            clear z2 HS
            go_wp2_with fail
            ((with_reducible refine (H1.out _).mono ?_); rintro e w1 ⟨rfl, hb1⟩)
            have hB1 := hBx.trans (hb1.mono hBx.size)
            have HX1 := HX.out.later hb1
            obtain ⟨c0, c1, c2, c3, c4, c5, c6, cl⟩ := id HX1
            simp only [Nat.zero_add] at c0 c1 c2 c3 c4 c5 c6
            have HX1 := Lib.hid HX1
            have q0 := ((HR.out.later hB1 hb).lot hk).1
            rw [hq] at q0
            go_wp2_with fail
            go_quiet (fail)
            have HX2 := HX1.out.later (below_dN (Below.refl _ _) nq)
            have hB2 := below_dN hB1 nq
            go_wp2_with fail
            ((with_reducible refine (H2.out _ _ _ HX2).mono ?_); rintro e w2 ⟨rfl, hb2⟩)
            have hB3 := hB2.trans (hb2.mono hB2.size)
            go_wp2
            go_ret
            exact ⟨rfl, hB3⟩
          subst z2
          have h6 := HS.out
          rw [if_neg (show ¬ (0 : Int) ≠ 0 by decide)] at h6
          have HS := Lib.hid h6
          clear h6
          go_wp2_with fail
          ((with_reducible refine (H1.out _).mono ?_); rintro e w1 ⟨rfl, hb1⟩)
          have hB1 := hBx.trans (hb1.mono hBx.size)
          have HX1 := HX.out.later hb1
          obtain ⟨c0, c1, c2, c3, c4, c5, c6, cl⟩ := id HX1
          simp only [Nat.zero_add] at c0 c1 c2 c3 c4 c5 c6
          have HX1 := Lib.hid HX1
          have q0 := ((HR.out.later hB1 hb).lot hk).1
          rw [hq] at q0
          go_wp2_with fail
          go_quiet (fail)
          have HX2 := HX1.out.later (below_dN (Below.refl _ _) nq)
          have hB2 := below_dN hB1 nq
          go_wp2_with fail
          ((with_reducible refine (H2.out _ _ _ HX2).mono ?_); rintro e w2 ⟨rfl, hb2⟩)
          have hB3 := hB2.trans (hb2.mono hB2.size)
          go_wp2
          go_roundw
          case rel => exact ⟨k + 1 + 1, by go_num, by omega, HS.out, hB3⟩
          case measure => simp [intOf]; omega
    · obtain rfl : i = ls.length := by omega
      obtain rfl : E = 0 := by
        have := hc.out
        rw [List.drop_length] at this
        exact this.symm
      clear hc HE
      go_wp2
      go_ret
      exact ⟨rfl, hB⟩
end Go.Proofs.Wk
/- REGISTERS OF LOTS: Check, in the reference. -/
namespace Go.Proofs.Wk
open Go.RowKit Mt

end Go.Proofs.Wk
/- REGISTERS OF LOTS: kinds of entries; Right. -/
namespace Go.Proofs.Wk
open Go.RowKit Mt

abbrev rowsC : Array Value := #[.string ⟨#[111, 112, 101, 110]⟩, .bool false, .nilFunc, .string ⟨#[112, 97, 115, 115]⟩, .bool false, .func (.func 72) #[] #[], .string ⟨#[114, 101, 106, 101, 99, 116]⟩, .bool false, .func (.func 74) #[] #[], .string ⟨#[99, 111, 110, 99, 101, 100, 101]⟩, .bool false, .func (.func 75) #[] #[], .string ⟨#[115, 99, 114, 97, 112]⟩, .bool false, .func (.func 77) #[] #[], .string ⟨#[99, 108, 111, 115, 101]⟩, .bool true, .func (.func 78) #[] #[], .string ⟨#[115, 104, 105, 112]⟩, .bool true, .func (.func 81) #[] #[]]
abbrev rowsV : Value := .agg #[.string ⟨#[111, 112, 101, 110]⟩, .bool false, .nilFunc, .string ⟨#[112, 97, 115, 115]⟩, .bool false, .func (.func 72) #[] #[], .string ⟨#[114, 101, 106, 101, 99, 116]⟩, .bool false, .func (.func 74) #[] #[], .string ⟨#[99, 111, 110, 99, 101, 100, 101]⟩, .bool false, .func (.func 75) #[] #[], .string ⟨#[115, 99, 114, 97, 112]⟩, .bool false, .func (.func 77) #[] #[], .string ⟨#[99, 108, 111, 115, 101]⟩, .bool true, .func (.func 78) #[] #[], .string ⟨#[115, 104, 105, 112]⟩, .bool true, .func (.func 81) #[] #[]]
abbrev rowsZ : Array Value := #[.string ⟨#[]⟩, .bool false, .nilFunc, .string ⟨#[]⟩, .bool false, .nilFunc, .string ⟨#[]⟩, .bool false, .nilFunc, .string ⟨#[]⟩, .bool false, .nilFunc, .string ⟨#[]⟩, .bool false, .nilFunc, .string ⟨#[]⟩, .bool false, .nilFunc, .string ⟨#[]⟩, .bool false, .nilFunc]
set_option maxRecDepth 100000 in
theorem rows_c (w : World) : Calls Tryz.prog 46 #[] w (Ret w rowsV) := by
  have hB : Below w.heap.size w (w.alloc (.cells rowsC 100)) := (Below.refl _ _).alloc (Nat.le_refl _) _
  go_enter Tryz.func46, Tryz.ntmps46
  go_upto_region 1 with fail
  rename_i K0 hK0
  refine wp_region_lit ?_
  iterate 7 (refine wpList_plain rfl fun K hK => ?_; go_simp; refine hK _ _ ?_; clear hK; clear K)
  refine wpList_build rfl 100 _ rfl (by kernel_rfl) ?_
  refine wpList_store_row rfl 100 (.tmp 0) (.tmp 8) rfl w.heap.size rowsC rfl (by kernel_rfl) 100 rowsZ (heap_alloc_new w _) (by kernel_rfl) rfl (by kernel_rfl) ?_
  rw [World.setRow_alloc_new]
  refine wpList_nil ?_
  refine hK0 _ _ (wp_ret ?_)
  refine bodyPost_ret (results_cell_row rfl _ _ w.heap.size 100 rowsC _ _ (by kernel_rfl) (heap_alloc_new w _) Tryz.underlying100 rfl (by kernel_rfl)) rfl ?_
  exact ⟨rfl, hB⟩
/-- A box, and what was there before. -/
structure BX (w0 : World) (b : Nat) (r1 : Array Value) (t1 : TypeId) (w : World) : Prop where
  c : w.heap[b]? = some (.cells r1 t1 (0, 0))
  w : Below w0.heap.size w0 w
theorem BX.later {w0 : World} {b : Nat} {r1 : Array Value} {t1 : TypeId} {w w' : World} (j : BX w0 b r1 t1 w) (hb : Below w.heap.size w w') : BX w0 b r1 t1 w' :=
  ⟨by rw [hb.block b (Array.getElem?_eq_some_iff.1 j.c).1]; exact j.c, j.w.trans (hb.mono j.w.size)⟩
theorem BX.alloc {w0 : World} {b : Nat} {r1 : Array Value} {t1 : TypeId} {w : World} (j : BX w0 b r1 t1 w) (o : Obj) : BX w0 b r1 t1 (w.alloc o) := j.later ((Below.refl _ _).alloc (Nat.le_refl _) o)
theorem BX.new (w0 : World) (r1 : Array Value) (t1 : TypeId) : BX w0 w0.heap.size r1 t1 (w0.alloc (.cells r1 t1)) := ⟨heap_alloc_new _ _, (Below.refl _ _).alloc (Nat.le_refl _) _⟩
theorem rightE_name {x : Rg.En} (h0 : 0 ≤ x.k) (h1 : x.k ≤ 6) (h : Rg.nameE x.lot ≠ 0) : Rg.rightE x = Rg.nameE x.lot := by
  unfold Rg.rightE; rw [if_neg (by omega), if_pos h]
theorem rightE_2 {x : Rg.En} (h0 : 0 ≤ x.k) (h1 : x.k ≤ 6) (h : Rg.nameE x.lot = 0) (h2 : (5 ≤ x.k ∧ x.n ≠ 0) ∨ (x.k < 5 ∧ (x.n < 1 ∨ 1048576 < x.n))) : Rg.rightE x = 2 := by
  unfold Rg.rightE; rw [if_neg (by omega), if_neg (by omega), if_pos h2]
theorem rightE_0 {x : Rg.En} (h0 : 0 ≤ x.k) (h1 : x.k ≤ 6) (h : Rg.nameE x.lot = 0) (h2 : ¬ ((5 ≤ x.k ∧ x.n ≠ 0) ∨ (x.k < 5 ∧ (x.n < 1 ∨ 1048576 < x.n)))) : Rg.rightE x = 0 := by
  unfold Rg.rightE; rw [if_neg (by omega), if_neg (by omega), if_neg h2]
theorem rightE_1 {x : Rg.En} (h0 : x.k < 0 ∨ 6 < x.k) : Rg.rightE x = 1 := by
  unfold Rg.rightE; rw [if_pos h0]
theorem rows_plain {w : World} {b : Nat} {T : TypeId} {fr : Nat × Nat} (h : w.heap[b]? = some (.cells rowsC T fr)) {k : Nat} (hk : k < 7) : w.cell? ⟨b, k * 3 + 1, none⟩ = some (.bool (decide (5 ≤ k))) := by
  rw [cell_of_row _ _ _ _ _ _ h]
  match k, hk with
  | 0, _ => rfl
  | 1, _ => rfl
  | 2, _ => rfl
  | 3, _ => rfl
  | 4, _ => rfl
  | 5, _ => rfl
  | 6, _ => rfl
theorem row_l {w w' : World} {b : Nat} {o : Obj} (h : w.heap[b]? = some o) (hb : Below w.heap.size w w') : w'.heap[b]? = some o := by rw [hb.block b (Array.getElem?_eq_some_iff.1 h).1]; exact h
set_option maxRecDepth 100000 in
set_option maxHeartbeats 4000000 in
theorem right_g (x : Rg.En) (w : World) (hl : x.lot.length ≤ 140737488355328) : Calls Tryz.prog 21 #[entV x] w (Ret w (.int .i64 (Rg.rightE x))) := by
  have HW := Lib.hid (fun W => rows_c W)
  have J := BX.new w #[.int .i64 x.k, .string ⟨x.lot.toArray⟩, .int .i64 x.n] 28
  have r1 := @rightE_1 x
  have r2 := @rightE_name x
  have r3 := @rightE_2 x
  have r4 := @rightE_0 x
  obtain ⟨k, lot, n⟩ := x
  simp only at hl r1 r2 r3 r4
  have HN := Lib.hid (fun W => dname_c lot W hl)
  generalize Rg.rightE ⟨k, lot, n⟩ = E at *
  generalize Rg.nameE lot = e at *

  go_enter Tryz.func21, Tryz.ntmps21
  go_upto_region 1 with fail
  rename_i K0 hK0
  refine wp_region_lit ?_
  refine wpList_plain rfl fun K hK => ?_
  go_simp
  ((with_reducible refine (HW.out _).mono ?_); rintro e w1 ⟨rfl, hb1⟩)
  refine hK _ _ ?_
  clear hK K
  refine wpList_plain rfl fun K hK => ?_
  go_simp
  refine hK _ _ ?_
  clear hK K
  refine wpList_store_row rfl 100 (.tmp 3) (.tmp 5) rfl w1.heap.size rowsC rfl (by kernel_rfl) 100 rowsZ (heap_alloc_new w1 _) (by kernel_rfl) rfl (by kernel_rfl) ?_
  rw [World.setRow_alloc_new]
  refine wpList_nil ?_
  refine hK0 _ _ ?_
  clear hK0 K0
  have J1 := (J.later hb1).alloc (.cells rowsC 100)
  have R1 := heap_alloc_new w1 (.cells rowsC 100)
  generalize rowsV = V
  have hlt1 := alloc_lt w1 (.cells rowsC 100)
  generalize w1.alloc (.cells rowsC 100) = W at *
  have c0 : W.cell? ⟨w.heap.size, 0, none⟩ = some (.int .i64 k) := by rw [cell_of_row _ _ _ _ _ _ J1.c]; rfl
  have c1 : W.cell? ⟨w.heap.size, 1, none⟩ = some (.string ⟨lot.toArray⟩) := by rw [cell_of_row _ _ _ _ _ _ J1.c]; rfl
  have H1 := Lib.hid J1
  have HR1 := Lib.hid R1
  clear J J1 R1 HW hb1
  by_cases a0 : k < 0
  · obtain rfl : E = 1 := r1 (.inl a0)
    clear r1 r2 r3 r4
    go_wp2
    go_ret
    exact ⟨rfl, H1.out.w⟩
  by_cases a1 : 6 < k
  · obtain rfl : E = 1 := r1 (.inr a1)
    clear r1 r2 r3 r4
    go_wp2
    go_ret
    exact ⟨rfl, H1.out.w⟩
  have r2 := r2 (by omega) (by omega)
  have r3 := r3 (by omega) (by omega)
  have r4 := r4 (by omega) (by omega)
  by_cases z : e = 0
  rotate_left
  · obtain rfl : E = e := r2 z
    have y : (E != 0) = true := bne_iff_ne.2 z
    clear r1 r2 r3 r4 z
    go_wp2_with fail
    ((with_reducible refine (HN.out _).mono ?_); rintro e w2 ⟨rfl, hb2⟩)
    have J2 := H1.out.later hb2
    go_wp2
    go_ret
    exact ⟨rfl, J2.w⟩
  have r5 := r3 z
  have r6 := r4 z
  clear r1 r2 r3 r4
  subst z
  obtain ⟨N, rfl⟩ : ∃ N : Nat, k = N := ⟨k.toNat, by omega⟩
  have hN : N < 7 := by omega
  have go : ∀ v, E = v → (∀ (Q : Ending → World → Prop), True) := fun _ _ _ => trivial
  clear go
  by_cases h5 : 5 ≤ (N : Int)
  · by_cases n0 : n = 0
    · subst n0
      obtain rfl : E = 0 := r6 (by omega)
      have pl : decide (5 ≤ N) = true := by simp; omega
      clear r5 r6 h5
      go_wp2_with fail
      ((with_reducible refine (HN.out _).mono ?_); rintro e w2 ⟨rfl, hb2⟩)
      have J2 := H1.out.later hb2
      have p0 := rows_plain (row_l HR1.out hb2) hN
      rw [pl] at p0
      have d0 : w2.cell? ⟨w.heap.size, 0, none⟩ = some (.int .i64 (N : Int)) := by rw [cell_of_row _ _ _ _ _ _ J2.c]; rfl
      have d1 : w2.cell? ⟨w.heap.size, 2, none⟩ = some (.int .i64 0) := by rw [cell_of_row _ _ _ _ _ _ J2.c]; rfl
      clear c0 c1 pl
      go_wp2
      go_ret
      exact ⟨rfl, J2.w⟩
    · have n1 : (n != 0) = true := bne_iff_ne.2 n0
      obtain rfl : E = 2 := r5 (by omega)
      have pl : decide (5 ≤ N) = true := by simp; omega
      clear r5 r6 h5 n0
      go_wp2_with fail
      ((with_reducible refine (HN.out _).mono ?_); rintro e w2 ⟨rfl, hb2⟩)
      have J2 := H1.out.later hb2
      have p0 := rows_plain (row_l HR1.out hb2) hN
      rw [pl] at p0
      have d0 : w2.cell? ⟨w.heap.size, 0, none⟩ = some (.int .i64 (N : Int)) := by rw [cell_of_row _ _ _ _ _ _ J2.c]; rfl
      have d1 : w2.cell? ⟨w.heap.size, 2, none⟩ = some (.int .i64 n) := by rw [cell_of_row _ _ _ _ _ _ J2.c]; rfl
      clear c0 c1 pl
      go_wp2
      go_ret
      exact ⟨rfl, J2.w⟩
  by_cases n0 : n < 1
  · skip
    obtain rfl : E = 2 := r5 (by omega)
    have pl : decide (5 ≤ N) = false := by simp; omega
    clear r5 r6 h5
    go_wp2_with fail
    ((with_reducible refine (HN.out _).mono ?_); rintro e w2 ⟨rfl, hb2⟩)
    have J2 := H1.out.later hb2
    have p0 := rows_plain (row_l HR1.out hb2) hN
    rw [pl] at p0
    have d0 : w2.cell? ⟨w.heap.size, 0, none⟩ = some (.int .i64 (N : Int)) := by rw [cell_of_row _ _ _ _ _ _ J2.c]; rfl
    have d1 : w2.cell? ⟨w.heap.size, 2, none⟩ = some (.int .i64 n) := by rw [cell_of_row _ _ _ _ _ _ J2.c]; rfl
    clear c0 c1 pl
    go_wp2
    go_ret
    exact ⟨rfl, J2.w⟩
  by_cases n1 : 1048576 < n
  · skip
    obtain rfl : E = 2 := r5 (by omega)
    have pl : decide (5 ≤ N) = false := by simp; omega
    clear r5 r6 h5
    go_wp2_with fail
    ((with_reducible refine (HN.out _).mono ?_); rintro e w2 ⟨rfl, hb2⟩)
    have J2 := H1.out.later hb2
    have p0 := rows_plain (row_l HR1.out hb2) hN
    rw [pl] at p0
    have d0 : w2.cell? ⟨w.heap.size, 0, none⟩ = some (.int .i64 (N : Int)) := by rw [cell_of_row _ _ _ _ _ _ J2.c]; rfl
    have d1 : w2.cell? ⟨w.heap.size, 2, none⟩ = some (.int .i64 n) := by rw [cell_of_row _ _ _ _ _ _ J2.c]; rfl
    clear c0 c1 pl
    go_wp2
    go_ret
    exact ⟨rfl, J2.w⟩
  obtain rfl : E = 0 := r6 (by omega)
  have pl : decide (5 ≤ N) = false := by simp; omega
  clear r5 r6 h5
  go_wp2_with fail
  ((with_reducible refine (HN.out _).mono ?_); rintro e w2 ⟨rfl, hb2⟩)
  have J2 := H1.out.later hb2
  have p0 := rows_plain (row_l HR1.out hb2) hN
  rw [pl] at p0
  have d0 : w2.cell? ⟨w.heap.size, 0, none⟩ = some (.int .i64 (N : Int)) := by rw [cell_of_row _ _ _ _ _ _ J2.c]; rfl
  have d1 : w2.cell? ⟨w.heap.size, 2, none⟩ = some (.int .i64 n) := by rw [cell_of_row _ _ _ _ _ _ J2.c]; rfl
  clear c0 c1 pl
  go_wp2
  go_ret
  exact ⟨rfl, J2.w⟩
end Go.Proofs.Wk
/- REGISTERS OF LOTS: the reference's Right. -/
namespace Go.Proofs.Wk
open Go.RowKit Mt

end Go.Proofs.Wk
/- REGISTERS OF LOTS: the reference's Place, Same, FewLots, Few. -/
namespace Go.Proofs.Wk
open Go.RowKit Mt

theorem place_step {ls : List Rg.Lt} {nm : Txt} {i : Nat} (hi : i < ls.length) : Rg.placeF nm (ls.drop i) i = (if ls[i].nm = nm then (i : Int) else Rg.placeF nm (ls.drop (i + 1)) (i + 1)) := by
  rw [List.drop_eq_getElem_cons hi, Rg.placeF]
def fewL (ls : List Rg.Lt) : Bool := !(decide (10 < ls.length) && decide (ls.length < 256) || decide (512 < ls.length)) && ls.all fun x => decide (x.nm.length ≤ 60)
def fewE (ls : List Rg.En) : Bool := !(decide (20 < ls.length) && decide (ls.length ≤ 4096) || decide (8192 < ls.length)) && ls.all fun x => decide (x.lot.length ≤ 60)
end Go.Proofs.Wk
/- REGISTERS OF LOTS: the reference's Same; slices.Equal. -/
namespace Go.Proofs.Wk
open Go.RowKit Mt

def lotEq (x y : Rg.Lt) : Bool := (x.nm == y.nm) && (x.sz == y.sz) && (x.gd == y.gd) && (x.bd == y.bd) && (x.cn == y.cn) && (x.sc == y.sc) && (x.st == y.st)
theorem lotEq_iff (x y : Rg.Lt) : lotEq x y = true ↔ x = y := by
  rw [Rg.Lt.eq_iff]; unfold lotEq; simp only [Bool.and_eq_true, beq_iff_eq, and_assoc]
end Go.Proofs.Wk
/- REGISTERS OF LOTS: the program's search for a name. -/
namespace Go.Proofs.Wk
open Go.RowKit Mt

set_option maxRecDepth 100000 in
theorem find1_c (x : Rg.Lt) (nm : Txt) (w : World) : Calls Tryz.prog 53 #[lotV x, .string ⟨nm.toArray⟩] w (Ret w (.int .i64 (Lib.compareBytes x.nm nm))) := by
  have HC := Lib.hid (fun W => Tryz.strings_Compare ⟨x.nm.toArray⟩ ⟨nm.toArray⟩ W)
  have hB : Below w.heap.size w (w.alloc (.cells #[.string ⟨x.nm.toArray⟩, .int .i64 x.sz, .int .i64 x.gd, .int .i64 x.bd, .int .i64 x.cn, .int .i64 x.sc, .int .i64 x.st] 46)) := (Below.refl _ _).alloc (Nat.le_refl _) _
  obtain ⟨a, sz, gd, bd, cn, sc, st⟩ := x
  go_enter Tryz.func53, Tryz.ntmps53
  go_wp2_with fail
  ((with_reducible refine (HC.out _).mono ?_); rintro e w' ⟨rfl, rfl⟩)
  go_wp2
  go_ret
  exact ⟨rfl, hB⟩
/-- A search that has come to an end. -/
theorem pos_end {ls : List Rg.Lt} {nm : Txt} (hs : Rg.Srt ls) (hp : Rg.pos ls nm < ls.length) : Rg.has ls nm = (Lib.compareBytes ls[Rg.pos ls nm].nm nm == 0) := by
  have h := Rg.has_pos (nm := nm) hs
  have h2 := (Rg.cmp_less ls[Rg.pos ls nm].nm nm).2
  cases q : Rg.has ls nm with
  | true =>
    obtain ⟨h3, h4⟩ := h.1 q
    exact (beq_iff_eq.2 (h2.2 h4)).symm
  | false =>
    refine (beq_eq_false_iff_ne.2 fun e => ?_).symm
    rw [h.2 ⟨hp, h2.1 e⟩] at q; cases q
theorem pos_none {ls : List Rg.Lt} {nm : Txt} (hs : Rg.Srt ls) (hp : ¬ Rg.pos ls nm < ls.length) : Rg.has ls nm = false :=
  Bool.eq_false_iff.2 fun q => hp ((Rg.has_pos hs).1 q).1
set_option maxRecDepth 100000 in
set_option maxHeartbeats 2000000 in
theorem bsearch_c {v : Value} (ls : List Rg.Lt) (nm : Txt) (w : World) (S : SlX w v ls) (hln : ls.length ≤ 140737488355328) (hs : Rg.Srt ls) :
    Calls Tryz.prog 52 #[v, .string ⟨nm.toArray⟩, .func (.func 53) #[] #[]] w (Ret w (.tuple #[.int .i64 (Rg.pos ls nm : Int), .bool (Rg.has ls nm)])) := by
  refine S.cases _ ?_ ?_
  · rintro a cap rfl rfl
    rw [show Rg.pos ([] : List Rg.Lt) nm = 0 from rfl, show Rg.has ([] : List Rg.Lt) nm = false from rfl]
    go_enter Tryz.func52, Tryz.ntmps52
    go_wp2_with fail
    refine wp_loop_rounds 1 ?_
    rw [rounds_succ]
    go_wp2
    go_ret2
    exact ⟨rfl, Below.refl _ _⟩
  rintro b off cap rfl hp hR hb
  have hlt0 := fun (h : Nat) (hh : h < ls.length) => Rg.pos_lt (nm := nm) hs hh
  have hend := pos_end (nm := nm) hs
  have hnone := pos_none (nm := nm) hs
  have hple := Rg.pos_le ls nm
  obtain ⟨P0, hP0⟩ : ∃ P0, Rg.pos ls nm = P0 := ⟨_, rfl⟩
  obtain ⟨B0, hB0⟩ : ∃ B0, Rg.has ls nm = B0 := ⟨_, rfl⟩
  have HR := Lib.hid hR
  have HLT := Lib.hid (show ∀ (h : Nat) (hh : h < ls.length), (Lib.compareBytes ls[h].nm nm < 0 ↔ h < P0) from fun h hh => by rw [(Rg.cmp_less _ _).1, hlt0 h hh, hP0])
  have HEND := Lib.hid (show ∀ (h : P0 < ls.length), B0 = (Lib.compareBytes ls[P0].nm nm == 0) from fun h => by subst hP0; rw [← hB0]; exact hend h)
  have HNONE := Lib.hid (show ¬ P0 < ls.length → B0 = false from fun h => by subst hP0; rw [← hB0]; exact hnone h)
  rw [hP0] at hple ⊢
  rw [hB0]
  clear hlt0 hend hnone hP0 hB0 hs hR
  go_enter Tryz.func52, Tryz.ntmps52
  go_wp2_with fail
  go_loopw [9, 10] (fun si sj wr => ∃ i j : Nat, si = .int .i64 (i : Int) ∧ sj = .int .i64 (j : Int) ∧ j ≤ ls.length ∧ i ≤ P0 ∧ P0 ≤ j ∧ Below w.heap.size w wr) (fun si sj _ => (intOf sj).toNat - (intOf si).toNat)
  case atStart => exact ⟨0, ls.length, rfl, rfl, Nat.le_refl _, Nat.zero_le _, hple, Below.refl _ _⟩
  case round =>
    obtain ⟨i, j, rfl, rfl, hj, hip, hpj, hB⟩ := hrel
    by_cases hlt : i < j
    · obtain ⟨h, hh⟩ : ∃ h, (i + j) / 2 = h := ⟨_, rfl⟩
      have hh1 : i ≤ h := by omega
      have hh2 : h < j := by omega
      have hhl : h < ls.length := by omega
      obtain ⟨k0, k1, k2, k3, k4, k5, k6⟩ := (HR.out.later hB hb).lot hhl
      have hcmp := HLT.out h hhl
      have HF := Lib.hid (fun W => find1_c ls[h] nm W)
      generalize ls[h] = x at *
      obtain ⟨a, sz, gd, bd, cn, sc, st⟩ := x
      simp only at k0 k1 k2 k3 k4 k5 k6 hcmp
      generalize Lib.compareBytes a nm = c at *
      have hbn : Below w.heap.size w wr := hB
      by_cases hc : c < 0
      · have hhp := hcmp.1 hc
        clear hcmp
        go_wp2_with fail
        ((with_reducible refine (HF.out _).mono ?_); rintro e w1 ⟨rfl, hb1⟩)
        have hB1 := hB.trans (hb1.mono hB.size)
        go_wp2
        go_roundw
        case rel => exact ⟨(i + j) / 2 + 1, j, by go_num, rfl, hj, by omega, hpj, hB1⟩
        case measure => simp [intOf]; omega
      · have hhp : ¬ h < P0 := fun q => hc (hcmp.2 q)
        clear hcmp
        go_wp2_with fail
        ((with_reducible refine (HF.out _).mono ?_); rintro e w1 ⟨rfl, hb1⟩)
        have hB1 := hB.trans (hb1.mono hB.size)
        go_wp2
        go_roundw
        case rel => exact ⟨i, (i + j) / 2, rfl, by go_num, by omega, hip, by omega, hB1⟩
        case measure => simp [intOf]; omega
    · obtain rfl : i = j := by omega
      obtain rfl : i = P0 := by omega
      by_cases hpl : i < ls.length
      · obtain ⟨k0, k1, k2, k3, k4, k5, k6⟩ := (HR.out.later hB hb).lot hpl
        have he := HEND.out hpl
        have HF := Lib.hid (fun W => find1_c ls[i] nm W)
        clear HLT HEND HNONE
        generalize ls[i] = x at *
        obtain ⟨a, sz, gd, bd, cn, sc, st⟩ := x
        simp only at k0 k1 k2 k3 k4 k5 k6 he
        generalize Lib.compareBytes a nm = c at *
        obtain ⟨d, hd⟩ : ∃ d, (c == 0) = d := ⟨_, rfl⟩
        rw [hd] at he
        subst he
        go_wp2_with fail
        ((with_reducible refine (HF.out _).mono ?_); rintro e w1 ⟨rfl, hb1⟩)
        have hB1 := hB.trans (hb1.mono hB.size)
        go_wp2
        go_ret2
        exact ⟨rfl, hB1⟩
      · obtain rfl : B0 = false := HNONE.out hpl
        clear HLT HEND HNONE
        go_wp2
        go_ret2
        exact ⟨rfl, hB⟩
set_option maxRecDepth 100000 in
theorem find_c {v : Value} (ls : List Rg.Lt) (nm : Txt) (w : World) (S : SlX w v ls) (hln : ls.length ≤ 140737488355328) (hs : Rg.Srt ls) :
    Calls Tryz.prog 25 #[v, .string ⟨nm.toArray⟩] w (Ret w (.tuple #[.int .i64 (Rg.pos ls nm : Int), .bool (Rg.has ls nm)])) := by
  have HS := Lib.hid (bsearch_c ls nm w S hln hs)
  clear S hln hs
  generalize Rg.pos ls nm = P0 at *
  generalize Rg.has ls nm = B0 at *
  go_enter Tryz.func25, Tryz.ntmps25
  go_wp2_with fail
  ((with_reducible refine HS.out.mono ?_); rintro e w1 ⟨rfl, hb1⟩)
  go_wp2
  go_ret2
  exact ⟨rfl, hb1⟩
end Go.Proofs.Wk
