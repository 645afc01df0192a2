/- REGISTERS OF LOTS: the reference's Done. -/
import Derived.Test.YtnhegeifcneiaaaGreatDoorRhP
namespace Go.Proofs.Wk
open Go.RowKit Mt

theorem put7o {w : World} {g o : Nat} {a : Rg.Lt} (y : Rg.Lt) (h : LotAt w g o a) :
    PutC w (((((((w.setCell ⟨g, o, none⟩ (.string ⟨y.nm.toArray⟩)).setCell ⟨g, o + 1, none⟩ (.int .i64 y.sz)).setCell ⟨g, o + 2, none⟩ (.int .i64 y.gd)).setCell ⟨g, o + 3, none⟩ (.int .i64 y.bd)).setCell ⟨g, o + 4, none⟩ (.int .i64 y.cn)).setCell ⟨g, o + 5, none⟩ (.int .i64 y.sc)).setCell ⟨g, o + 6, none⟩ (.int .i64 y.st)) g o y :=
  (((((((PutC.refl h (Below.refl _ _)).set (f := 0) (y := ⟨y.nm, a.sz, a.gd, a.bd, a.cn, a.sc, a.st⟩) (by decide) rfl).set (f := 1) (y := ⟨y.nm, y.sz, a.gd, a.bd, a.cn, a.sc, a.st⟩) (by decide) rfl).set (f := 2) (y := ⟨y.nm, y.sz, y.gd, a.bd, a.cn, a.sc, a.st⟩) (by decide) rfl).set (f := 3)
    (y := ⟨y.nm, y.sz, y.gd, y.bd, a.cn, a.sc, a.st⟩) (by decide) rfl).set (f := 4) (y := ⟨y.nm, y.sz, y.gd, y.bd, y.cn, a.sc, a.st⟩) (by decide) rfl).set (f := 5) (y := ⟨y.nm, y.sz, y.gd, y.bd, y.cn, y.sc, a.st⟩) (by decide) rfl).set (f := 6) (y := y) (by decide) rfl
theorem put7p {a w : World} {B g o : Nat} {v0 v1 v2 v3 v4 v5 v6 : Value} (h : Below B a w) (hg : B ≤ g) :
    Below B a (((((((w.setCell ⟨g, o, none⟩ v0).setCell ⟨g, o + 1, none⟩ v1).setCell ⟨g, o + 2, none⟩ v2).setCell ⟨g, o + 3, none⟩ v3).setCell ⟨g, o + 4, none⟩ v4).setCell ⟨g, o + 5, none⟩ v5).setCell ⟨g, o + 6, none⟩ v6) :=
  Below.cellP (Below.cellP (Below.cellP (Below.cellP (Below.cellP (Below.cellP (Below.cellP h hg _) hg _) hg _) hg _) hg _) hg _) hg _
theorem CnX.own {e : TypeId} {w : World} {base : Nat} {v : Value} {ls : List Rg.Lt} (h : CnX e w base v ls) (hp : 0 < ls.length) :
    ∃ g cap cur, v = .slice (some ⟨g, 0, none⟩) ls.length cap ∧ base ≤ g ∧ w.heap[g]? = some (.cells cur e (0, 0)) ∧ RX w g 0 ls := by
  rcases h with ⟨e0, -⟩ | ⟨h1, ⟨-, h2⟩ | ⟨g, cap, cur, rfl, e2, e3, e4, e5, e6, e7⟩⟩
  · rw [e0] at hp; exact absurd hp (Nat.not_lt_zero _)
  · omega
  · exact ⟨g, cap, cur, rfl, e2, e3, RX.of_row e3 e7⟩
set_option maxRecDepth 100000 in
set_option maxHeartbeats 4000000 in
theorem rDone_old {v : Value} (ls : List Rg.Lt) (k : Int) (lot : Txt) (n : Int) (w : World) (S : SlX w v ls) (hl : Rg.chkE ls = 0) (hk : k ≠ 0) (hx : Rg.rightE ⟨k, lot, n⟩ = 0) :
    Calls Tryz.prog 103 #[v, entV ⟨k, lot, n⟩] w (DoneP w (Rg.doneL ls ⟨k, lot, n⟩)) := by
  obtain ⟨hlen, hall, hs⟩ := (Rg.chkE_iff ls).1 hl
  have hpl := Rg.place_eq (nm := lot) hs
  have HP := Lib.hid (fun W S => Place_c ls lot W (v := v) S (by omega))
  have HS := Lib.hid S
  have y0 : (k == 0) = false := beq_eq_false_iff_ne.2 hk
  have J := BX.new w #[.int .i64 k, .string ⟨lot.toArray⟩, .int .i64 n] 30
  cases hh : Rg.has ls lot with
  | false =>
    rw [doneL_n (x := ⟨k, lot, n⟩) hk hh]
    rw [if_neg (by rw [hh]; decide)] at hpl
    rw [hpl] at HP
    have HJ := Lib.hid J
    obtain ⟨d0, d1, d2⟩ := cell3 J.c
    clear hl hs hh hpl S hk hx hall J
    go_enter Tryz.func103, Tryz.ntmps103
    go_upto_region 1 with fail
    generalize World.alloc _ _ = W0 at *
    go_wp2_with fail
    ((with_reducible refine (HP.out _ (HS.out.later HJ.out.w)).mono ?_); rintro e w1 ⟨rfl, rfl⟩)
    go_wp2
    go_ret2
    exact ⟨_, rfl, .inl ⟨none, 0, rfl, rfl⟩, HJ.out.w⟩
  | true =>
    obtain ⟨hp, -⟩ := (Rg.has_pos hs).1 hh
    have hD := doneL_k (ls := ls) (x := ⟨k, lot, n⟩) hk hh hp
    simp only at hD
    rw [if_pos hh] at hpl
    rw [hpl] at HP
    have HC := Lib.hid (fun W => changed_c ls[Rg.pos ls lot] ⟨k, lot, n⟩ W (tame (hall _ (List.getElem_mem hp)).2) hk hx)
    generalize Rg.doneL ls ⟨k, lot, n⟩ = D at *
    rcases S with ⟨a, cap, rfl, rfl⟩ | ⟨b, off, cap, rfl, hR, hb⟩
    · exact absurd hp (Nat.not_lt_zero _)
    have hlot := fun W hB => (hR.later (w' := W) hB hb).lot hp
    have hat : ∀ (W : World) (g : Nat), RX W g 0 ls → g < W.heap.size → LotAt W g (Rg.pos ls lot * 7) ls[Rg.pos ls lot] := fun W g h hg => h.at hp hg
    generalize ls[Rg.pos ls lot] = a at *
    generalize Rg.changed a ⟨k, lot, n⟩ = R at *
    obtain ⟨y, c⟩ := R
    simp only at hD HC
    generalize Rg.pos ls lot = p at *
    have HDE := Lib.hid hD
    have HAT := Lib.hid hat
    have HLO := Lib.hid hlot
    have HJ := Lib.hid J
    have HK := Lib.hid hb
    obtain ⟨d0, d1, d2⟩ := cell3 J.c
    have HLT : w.heap.size < (w.alloc (.cells #[.int .i64 k, .string ⟨lot.toArray⟩, .int .i64 n] 30)).heap.size := alloc_lt _ _
    clear hl hs hh hpl hk hx hall J hD hat hR hlot hb
    go_enter Tryz.func103, Tryz.ntmps103
    go_upto_region 1 with fail
    generalize World.alloc _ _ = W0 at *
    obtain ⟨a0, a1, a2, a3, a4, a5, a6⟩ := a
    obtain ⟨k0, k1, k2, k3, k4, k5, k6⟩ := HLO.out W0 HJ.out.w
    simp only at k0 k1 k2 k3 k4 k5 k6
    have hbl : b < W0.heap.size := Nat.lt_of_lt_of_le HK.out HJ.out.w.size
    go_wp2_with fail
    ((with_reducible refine (HP.out _ (HS.out.later HJ.out.w)).mono ?_); rintro e w1 ⟨rfl, rfl⟩)
    go_upto_region 6 with fail
    go_cut [7, 8] (fun s7 s8 wx => ∃ g, s7 = .pointer (some ⟨g, 0, none⟩) ∧ s8 = .int .i64 c ∧ Hid (wx.heap[g]? = some (.cells (lotC y).toArray 98 (0, 0))) ∧ Hid (Below w.heap.size w wx))
    case first =>
      go_region_with (first
        | (go_at_call 126; (with_reducible refine (HC.out _).mono ?_); rintro e w2 ⟨rfl, hb2⟩;
            (first
              | (have hb2' : Below W0.heap.size W0 w2 := ⟨hb2.os, hb2.tape, hb2.output, hb2.size, hb2.block⟩; have hbw := Lib.hid (HJ.out.w.trans (hb2'.mono HJ.out.w.size)); have hfa := heap_alloc_new w2 (.cells (lotC y).toArray 98); have hfb := hbw.out.alloc hbw.out.size (.cells (lotC y).toArray 98))
              | (have hb2' : Below W0.heap.size W0 w2 := ((Below.refl _ _).alloc (Nat.le_refl _) (.cells #[.string ⟨#[]⟩, .int .i64 0, .int .i64 0, .int .i64 0, .int .i64 0, .int .i64 0, .int .i64 0] 98)).trans ⟨hb2.os, hb2.tape, hb2.output, hb2.size, fun k hk => hb2.block k (Nat.lt_trans hk (alloc_lt W0 _))⟩;
                 have hbw := Lib.hid (HJ.out.w.trans (hb2'.mono HJ.out.w.size)); have hzz := (hb2.block _ (alloc_lt W0 _)).trans (heap_alloc_new W0 (.cells #[.string ⟨#[]⟩, .int .i64 0, .int .i64 0, .int .i64 0, .int .i64 0, .int .i64 0, .int .i64 0] 98));
                 obtain ⟨⟨z0, z1, z2, z3, z4, z5, z6⟩, fz⟩ := cell7 hzz; have hfa := put7 (v0 := .string ⟨y.nm.toArray⟩) (v1 := .int .i64 y.sz) (v2 := .int .i64 y.gd) (v3 := .int .i64 y.bd) (v4 := .int .i64 y.cn) (v5 := .int .i64 y.sc) (v6 := .int .i64 y.st) hzz; have hfb := put7b (v0 := .string ⟨y.nm.toArray⟩) (v1 := .int .i64 y.sz) (v2 := .int .i64 y.gd) (v3 := .int .i64 y.bd) (v4 := .int .i64 y.cn) (v5 := .int .i64 y.sc) (v6 := .int .i64 y.st) hbw.out HJ.out.w.size)))
        | fail)
      all_goals (go_wp2_with fail; go_meet)
      all_goals exact ⟨_, rfl, rfl, hfa, hfb⟩
    case rest =>
      obtain ⟨g, rfl, rfl, HG, HB⟩ := hcut
      have hgl : g < wc.heap.size := (Array.getElem?_eq_some_iff.1 HG.out).1
      have HGL := Lib.hid hgl
      clear hgl k0 k1 k2 k3 k4 k5 k6 d0 d1 d2 hbl HLT
      by_cases hc : c = 0
      rotate_left
      · obtain rfl : D = ([], c) := by rw [HDE.out, if_pos hc]
        have y1 : (c != 0) = true := bne_iff_ne.2 hc
        clear HDE hc
        go_wp2
        go_ret2
        exact ⟨_, rfl, .inl ⟨none, 0, rfl, rfl⟩, HB.out⟩
      subst hc
      obtain rfl : D = (ls.set p y, 0) := by rw [HDE.out]; simp
      have HN := Lib.hid (show ls.length * 64 ≤ 140737488355328 by omega)
      clear HDE
      go_wp2_with (at_builtin; refine wpList_clone_row rfl _ _ 43 98 rfl Tryz.underlying43 lotZ 64 (by decide) (by kernel_rfl) rfl wc.heap.size _ ls _ rfl rfl HN.out (HS.out.later (by first | exact HB.out | exact HB.out.alloc HB.out.size _ | exact (HB.out.alloc HB.out.size _).drew)) (by first | exact Nat.le_refl _ | exact Nat.le_of_lt (alloc_lt _ _)) ?_; rintro v3 w3 h3 hb3; have hb3' : Below wc.heap.size wc w3 := (by first | exact hb3 | exact ((Below.refl _ _).alloc (Nat.le_refl _) _).trans hb3 | exact ((Below.refl _ _).alloc (Nat.le_refl _) _).drew.trans hb3); obtain ⟨g3, cap3, cur3, rfl, e2, e3, hrx⟩ := h3.own (by omega); have hg3 : g3 < w3.heap.size := (Array.getElem?_eq_some_iff.1 e3).1; have hla := HAT.out w3 g3 hrx hg3; obtain ⟨m0, m1, m2, m3, m4, m5, m6, -⟩ := id hla; have hfz : ∀ j, w3.frozen? ⟨g3, j, none⟩ = false := (fun j => frozen_of_row _ _ _ _ _ e3); have z0 := hfz (p * 7); have z1 := hfz (p * 7 + 1); have z2 := hfz (p * 7 + 2); have z3 := hfz (p * 7 + 3); have z4 := hfz (p * 7 + 4); have z5 := hfz (p * 7 + 5); have z6 := hfz (p * 7 + 6); obtain ⟨⟨r0, r1, r2, r3, r4, r5, r6⟩, -⟩ := cell7 ((hb3'.block g HGL.out).trans HG.out); have HLA := Lib.hid hla; have HRX := Lib.hid hrx; have HG3 := Lib.hid hg3; have HE2 := Lib.hid e2; have HB3 := Lib.hid hb3'; clear hla hrx hg3 e2 hb3 hb3' hfz e3)
      go_ret2
      have hbf := put7p (g := g3) (o := p * 7) (v0 := .string ⟨y.nm.toArray⟩) (v1 := .int .i64 y.sz) (v2 := .int .i64 y.gd) (v3 := .int .i64 y.bd) (v4 := .int .i64 y.cn) (v5 := .int .i64 y.sc) (v6 := .int .i64 y.st) (HB.out.trans (HB3.out.mono HB.out.size)) (Nat.le_trans HB.out.size HE2.out)
      have hsz : g3 < (((((((w3.setCell ⟨g3, p * 7, none⟩ (.string ⟨y.nm.toArray⟩)).setCell ⟨g3, p * 7 + 1, none⟩ (.int .i64 y.sz)).setCell ⟨g3, p * 7 + 2, none⟩ (.int .i64 y.gd)).setCell ⟨g3, p * 7 + 3, none⟩ (.int .i64 y.bd)).setCell ⟨g3, p * 7 + 4, none⟩ (.int .i64 y.cn)).setCell ⟨g3, p * 7 + 5, none⟩ (.int .i64 y.sc)).setCell ⟨g3, p * 7 + 6, none⟩ (.int .i64 y.st)).heap.size := by
        simp only [World.setCell, Array.size_modify]; exact HG3.out
      exact ⟨_, rfl, .inr ⟨g3, 0, cap3, by rw [List.length_set]; rfl, RX.put HRX.out (put7o y HLA.out), hsz⟩, hbf⟩
end Go.Proofs.Wk
