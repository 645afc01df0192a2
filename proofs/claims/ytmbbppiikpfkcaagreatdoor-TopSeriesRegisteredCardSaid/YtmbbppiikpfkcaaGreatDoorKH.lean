/- REGISTERS OF LOTS: Usable. -/
import Derived.Test.YtmbbppiikpfkcaaGreatDoorVF
import Derived.Test.YtmbbppiikpfkcaaGreatDoorKD
import Derived.Test.YtmbbppiikpfkcaaGreatDoorHI
import Derived.Test.YtmbbppiikpfkcaaGreatDoorHE
namespace Go.Proofs.Wk
open Go.RowKit Mt

/-- The usable share of a lot, and an error's number. -/
def useL (ls : List Rg.Lt) (nm : Txt) : Txt × Int :=
  if Rg.chkE ls ≠ 0 then ([], Rg.chkE ls) else if Rg.nameE nm ≠ 0 then ([], Rg.nameE nm) else if Rg.has ls nm = true then ((ls[Rg.pos ls nm]?.map fun a => rtoa (Rat.divInt (a.gd + a.cn) a.sz)).getD [], 0) else ([], 6)
set_option maxRecDepth 100000 in
set_option maxHeartbeats 2000000 in
theorem Usable_c {v : Value} (ls : List Rg.Lt) (nm : Txt) (w : World) (hg : Good w) (S : SlX w v ls) (hn : ∀ x ∈ ls, x.nm.length ≤ 140737488355328) (hl : nm.length ≤ 140737488355328) :
    Calls Tryz.prog 9 #[v, .string ⟨nm.toArray⟩] w (Ret w (ans2 (useL ls nm))) := by
  have HC := Lib.hid (fun W S => rgCheck_c (v := v) ls W S hn)
  have HN := Lib.hid (fun W => dname_c nm W hl)
  have HS := Lib.hid S
  have HG := Lib.hid hg
  have hD : useL ls nm = if Rg.chkE ls ≠ 0 then ([], Rg.chkE ls) else if Rg.nameE nm ≠ 0 then ([], Rg.nameE nm) else if Rg.has ls nm = true then ((ls[Rg.pos ls nm]?.map fun a => rtoa (Rat.divInt (a.gd + a.cn) a.sz)).getD [], 0) else ([], 6) := rfl
  by_cases hc : Rg.chkE ls = 0
  rotate_left
  · rw [if_pos hc] at hD
    rw [show useL ls nm = ([], Rg.chkE ls) from hD]
    generalize Rg.chkE ls = c at *
    have y1 : (c != 0) = true := bne_iff_ne.2 hc
    clear hD hc S HN
    go_enter Tryz.func9, Tryz.ntmps9
    go_wp2_with fail
    ((with_reducible refine (HC.out _ HS.out).mono ?_); rintro e w1 ⟨rfl, hb1⟩)
    go_wp2
    go_ret2
    exact ⟨rfl, hb1⟩
  obtain ⟨hlen, hall, hs⟩ := (Rg.chkE_iff ls).1 hc
  rw [if_neg (Decidable.not_not.2 hc)] at hD
  rw [hc] at HC
  by_cases hr : Rg.nameE nm = 0
  rotate_left
  · rw [if_pos hr] at hD
    rw [show useL ls nm = ([], Rg.nameE nm) from hD]
    generalize Rg.nameE nm = c at *
    have y1 : (c != 0) = true := bne_iff_ne.2 hr
    clear hD hr hc S
    go_enter Tryz.func9, Tryz.ntmps9
    go_wp2_with fail
    ((with_reducible refine (HC.out _ HS.out).mono ?_); rintro e w1 ⟨rfl, hb1⟩)
    go_wp2_with fail
    ((with_reducible refine (HN.out _).mono ?_); rintro e w2 ⟨rfl, hb2⟩)
    have hb := hb1.trans (hb2.mono hb1.size)
    clear hb1 hb2
    go_wp2
    go_ret2
    exact ⟨rfl, hb⟩
  rw [if_neg (Decidable.not_not.2 hr)] at hD
  rw [hr] at HN
  have HF := Lib.hid (fun W S => find_c ls nm W (v := v) S (by omega) hs)
  have hpos := Rg.has_pos (nm := nm) hs
  cases hh : Rg.has ls nm with
  | false =>
    rw [if_neg (by rw [hh]; decide)] at hD
    rw [show useL ls nm = ([], 6) from hD]
    rw [hh] at HF
    generalize Rg.pos ls nm = p at *
    clear hD hr hc S hs hall hh hpos
    go_enter Tryz.func9, Tryz.ntmps9
    go_wp2_with fail
    ((with_reducible refine (HC.out _ HS.out).mono ?_); rintro e w1 ⟨rfl, hb1⟩)
    go_wp2_with fail
    ((with_reducible refine (HN.out _).mono ?_); rintro e w2 ⟨rfl, hb2⟩)
    have hb := hb1.trans (hb2.mono hb1.size)
    clear hb1 hb2
    go_wp2_with fail
    ((with_reducible refine (HF.out _ (HS.out.later hb)).mono ?_); rintro e w3 ⟨rfl, hb3⟩)
    have hB := hb.trans (hb3.mono hb.size)
    clear hb hb3
    go_wp2
    go_ret2
    exact ⟨rfl, hB⟩
  | true =>
    rw [if_pos hh] at hD
    rw [hh] at HF
    obtain ⟨hp, -⟩ := hpos.1 hh
    have hok := hall _ (List.getElem_mem hp)
    obtain ⟨⟨b0, b1⟩, ⟨g0, g1⟩, -, ⟨c0, c1⟩, -⟩ := (Rg.lotE_iff _).1 hok.2
    rw [List.getElem?_eq_getElem hp] at hD
    rcases S with ⟨a, cap, rfl, rfl⟩ | ⟨b, off, cap, rfl, hR, hbl⟩
    · exact absurd hp (Nat.not_lt_zero _)
    have hlot := fun W hb => (hR.later (w' := W) hb hbl).lot hp
    generalize ls[Rg.pos ls nm] = x at *
    rw [show useL ls nm = (rtoa (Rat.divInt (x.gd + x.cn) x.sz), 0) from hD]
    obtain ⟨nm0, sz, gd, bd, cn, sc, st⟩ := x
    simp only at b0 b1 g0 g1 c0 c1 hlot
    have ho := fun W hg => qOf_c (gd + cn) sz W hg (by omega) (by omega) (by omega) (by omega)
    rw [show makQ (gd + cn) sz = (rtoa (Rat.divInt (gd + cn) sz), 0) by unfold makQ; rw [if_neg (by omega)]] at ho
    have hw : IntKind.i64.wrap (gd + cn) = gd + cn := IntWalk.i64_in _ (by omega)
    obtain ⟨s, hs0⟩ : ∃ s, gd + cn = s := ⟨_, rfl⟩
    have hj : IntKind.i64.wrap (gd + cn) = s := by rw [hw, hs0]
    rw [hs0] at ho ⊢
    have HO := Lib.hid ho
    have HL := Lib.hid hlot
    generalize rtoa (Rat.divInt s sz) = t at *
    generalize Rg.pos ls nm = p at *
    clear hD hr hc hs hall hh hpos hok ho hlot hw hs0 b0 b1 g0 g1 c0 c1 hR hg
    go_enter Tryz.func9, Tryz.ntmps9
    go_wp2_with fail
    ((with_reducible refine (HC.out _ HS.out).mono ?_); rintro e w1 ⟨rfl, hb1⟩)
    go_wp2_with fail
    ((with_reducible refine (HN.out _).mono ?_); rintro e w2 ⟨rfl, hb2⟩)
    have hb := hb1.trans (hb2.mono hb1.size)
    clear hb1 hb2
    go_wp2_with fail
    ((with_reducible refine (HF.out _ (HS.out.later hb)).mono ?_); rintro e w3 ⟨rfl, hb3⟩)
    have hB := hb.trans (hb3.mono hb.size)
    clear hb hb3
    obtain ⟨k0, k1, k2, k3, k4, k5, k6⟩ := HL.out _ hB
    have HB := Lib.hid hB
    clear hB k0 k3 k5 k6
    go_wp2_with fail
    go_region_with (first
      | (go_at_call 26; (with_reducible refine (HO.out _ ?_).mono ?_); (first | exact HG.out.later HB.out | exact HG.out.later HB.out.drew); rintro e w4 ⟨rfl, hb4⟩)
      | fail)
    all_goals
      have hbW := Lib.hid (show Below w.heap.size w w4 from HB.out.trans ⟨hb4.os, hb4.tape, hb4.output, hb4.size, fun k hk => hb4.block k (Nat.lt_of_lt_of_le hk HB.out.size)⟩)
      clear hb4 hj
      go_wp2
      go_ret2
      exact ⟨rfl, hbW.out⟩
end Go.Proofs.Wk
/- REGISTERS OF LOTS: the reference's Usable. -/
namespace Go.Proofs.Wk
open Go.RowKit Mt

end Go.Proofs.Wk
