/- POSITION: what the program and the reference answer, side by side. -/
import Derived.Test.YtdpjkfkmlaphhaaGreatDoorPJ
import Derived.Test.YtdpjkfkmlaphhaaGreatDoorPL
import Derived.Deep.RegionHeld3
namespace Go.Proofs.Wk
open Go.RowKit Mt Po

theorem right_ok {c : Ca} {ds : List Dt} {ls : List Sp} (h : caE c.f c.x c.b ds ls = 0) {t : TQ} (ht : ShT t) :
    OkC c t ∧ ls.length ≤ 64 ∧ (∀ p ∈ ls, InP p) ∧ (0 ≤ c.x.tol ∧ c.x.tol ≤ 100000) ∧ (0 ≤ c.b ∧ c.b ≤ 100000) := by
  obtain ⟨h1, -, h3, h4⟩ := caE_ok h
  obtain ⟨g1, g2, -, -⟩ := frE_ok h1
  obtain ⟨k1, k2, k3, -⟩ := ftE_ok g1
  obtain ⟨-, -, p3, -⟩ := plE_ok g2
  exact ⟨⟨k1, k2, k3, ht⟩, (chkS_ok h4).1, (chkS_ok h4).2, p3, h3⟩
theorem gvE_zero {c : Ca} {tt : TT} {ds : List Dt} {ls : List Sp} (h : gvE c tt ds ls = 0) : caE c.f c.x c.b ds ls = 0 ∧ ttE tt = 0 := by
  unfold gvE at h
  split at h
  · contradiction
  · rename_i q; exact ⟨by simpa using q, h⟩
end Go.Proofs.Wk
/- POSITION, IN THE LAW: the numbers of the chapter's examples. -/
namespace Go.Proofs.Wk
open Go.RowKit Mt Po

abbrev zT : TQ := ⟨0, 0, 0, 0, 0, 0⟩
abbrev shT : TQ := ⟨-3, -4, 0, 0, 0, 0⟩
theorem zT_sh : ShT zT := ⟨szV_zero.mono (by omega) (by omega), szV_zero.mono (by omega) (by omega), szV_zero.mono (by omega) (by omega), szV_zero.mono (by omega) (by omega), szV_zero.mono (by omega) (by omega), szV_zero.mono (by omega) (by omega)⟩
theorem shT_sh : ShT shT := ⟨((szV_neg (szV_int (n := 3) (v := 0) ((lng_le 3 (k := 1) (by omega)).2 (by decide)))).mono (by omega) (by omega) : szV (-3) 25 0), ((szV_neg (szV_int (n := 4) (v := 0) ((lng_le 4 (k := 1) (by omega)).2 (by decide)))).mono (by omega) (by omega) : szV (-4) 25 0),
  szV_zero.mono (by omega) (by omega), szV_zero.mono (by omega) (by omega), szV_zero.mono (by omega) (by omega), szV_zero.mono (by omega) (by omega)⟩
theorem hole_ok (d : Bool) : caE (hoC d).f (hoC d).x (hoC d).b [] hoL = 0 := by cases d <;> decide +kernel
theorem wst_hole : wst (fC (hoC true) zT hoL) hoL.length = (25, 0) := by decide +kernel
theorem wst_box : wst (fC (hoC false) zT hoL) hoL.length = (16, 0) := by decide +kernel
theorem wst_shift : wst (fC (hoC true) shT hoL) hoL.length = (17, 1) := by decide +kernel
theorem fit_hole : fitB 25 10 = true := by decide +kernel
theorem rtoa_25 : rtoa 25 = [50, 53] := (rtoa_int 25).trans (by decide +kernel)
theorem rtoa_17 : rtoa 17 = [49, 55] := (rtoa_int 17).trans (by decide +kernel)
theorem rtoa_m3 : rtoa (-3) = [45, 51] := (rtoa_int (-3)).trans (by decide +kernel)
theorem rtoa_m4 : rtoa (-4) = [45, 52] := (rtoa_int (-4)).trans (by decide +kernel)
theorem ned_25 : nedV 25 = .tuple #[.int .i64 10, .int .i64 0] := by
  have h1 : ned 25 ≤ 10 := (ned_iff (by omega)).1 (of_decide_eq_true (by decide +kernel : fitB 25 ((10 : Nat) : Int) = true))
  have h2 : ¬ ned 25 ≤ 9 := fun h => absurd ((ned_iff (by omega)).2 h) (of_decide_eq_false (by decide +kernel : fitB 25 ((9 : Nat) : Int) = false))
  unfold nedV
  rw [show ned 25 = 10 by omega]; rfl
theorem ned_16 : nedV 16 = .tuple #[.int .i64 8, .int .i64 0] := by
  have h1 : ned 16 ≤ 8 := (ned_iff (by omega)).1 (of_decide_eq_true (by decide +kernel : fitB 16 ((8 : Nat) : Int) = true))
  have h2 : ¬ ned 16 ≤ 7 := fun h => absurd ((ned_iff (by omega)).2 h) (of_decide_eq_false (by decide +kernel : fitB 16 ((7 : Nat) : Int) = false))
  unfold nedV
  rw [show ned 16 = 8 by omega]; rfl
abbrev zTT' : TT := ⟨[48], [48], [48], [48], [48], [48]⟩
abbrev shTT : TT := ⟨[45, 51], [45, 52], [48], [48], [48], [48]⟩
theorem tz : tqT zT = zTT' := by unfold tqT; simp only [rtoa_zero]
theorem tsh : tqT shT = shTT := by unfold tqT; simp only [rtoa_zero, rtoa_m3, rtoa_m4]
theorem zS : ttS zTT' = true := by decide +kernel
theorem shS : ttS shTT = true := by decide +kernel
theorem zE : ttE zTT' = 0 := by decide +kernel
theorem shE : ttE shTT = 0 := by decide +kernel
/-- The worst point of the chapter's case. -/
theorem aw_given (d : Bool) (tt : TT) (sv : Value) (w : World) (hg : Good w) (S : CaS w (hoC d) (.slice none 0 0) (.slice none 0 0) sv [] hoL) (hl : ∀ l ∈ tt.l, l.length ≤ 140737488355328) (h : ttE tt = 0) :
    ∀ W, Below w.heap.size w W → Calls Tryz.prog 51 #[caV (hoC d) (.slice none 0 0) (.slice none 0 0) sv, ttV tt] W (Ret W (.int .i64 0)) := fun W hb => by
  have := given_c (hoC d) (.slice none 0 0) (.slice none 0 0) sv tt [] hoL W (hg.later hb) (S.later hb) hl
  rwa [show gvE (hoC d) tt [] hoL = 0 by unfold gvE; rw [hole_ok, if_neg (by simp), h]] at this
theorem aw_worst (d : Bool) (t : TQ) (ht : ShT t) (sv : Value) (w : World) (hg : Good w) (S : CaS w (hoC d) (.slice none 0 0) (.slice none 0 0) sv [] hoL) (hl : ∀ l ∈ (tqT t).l, l.length ≤ 140737488355328) (h : ttE (tqT t) = 0) (q : Rat) (i : Nat) (hq : wst (fC (hoC d) t hoL) hoL.length = (q, i)) :
    ∀ W, Below w.heap.size w W → Calls Tryz.prog 40 #[caV (hoC d) (.slice none 0 0) (.slice none 0 0) sv, ttV (tqT t)] W (Ret W (wst3 (rtoa q) i 0)) := fun W hb => by
  obtain ⟨hk, h64, hin, -, -⟩ := right_ok (hole_ok d) ht
  have := worst_ok (hoC d) (.slice none 0 0) (.slice none 0 0) sv t hoL W (hg.later hb) hk (S.sp.later hb) h64 (by decide) hin fun W' h' => aw_given d _ sv w hg S hl h W' (hb.nx h')
  rwa [hq] at this
theorem hl1 : ∀ l ∈ zTT'.l, l.length ≤ 140737488355328 := by decide
theorem hl2 : ∀ l ∈ shTT.l, l.length ≤ 140737488355328 := by decide
theorem aw1 (sv : Value) (w : World) (hg : Good w) (S : CaS w (hoC true) (.slice none 0 0) (.slice none 0 0) sv [] hoL) : Calls Tryz.prog 40 #[caV (hoC true) (.slice none 0 0) (.slice none 0 0) sv, ttV zTT'] w (Ret w (wst3 [50, 53] 0 0)) := by
  have := aw_worst true zT zT_sh sv w hg S (by rw [tz]; exact hl1) (by rw [tz]; exact zE) _ _ wst_hole w (Below.refl _ _)
  rwa [tz, rtoa_25] at this
theorem aw5 (sv : Value) (w : World) (hg : Good w) (S : CaS w (hoC true) (.slice none 0 0) (.slice none 0 0) sv [] hoL) : Calls Tryz.prog 40 #[caV (hoC true) (.slice none 0 0) (.slice none 0 0) sv, ttV shTT] w (Ret w (wst3 [49, 55] 1 0)) := by
  have := aw_worst true shT shT_sh sv w hg S (by rw [tsh]; exact hl2) (by rw [tsh]; exact shE) _ _ wst_shift w (Below.refl _ _)
  rwa [tsh, rtoa_17] at this
theorem aw2 (sv : Value) (w : World) (hg : Good w) (S : CaS w (hoC true) (.slice none 0 0) (.slice none 0 0) sv [] hoL) : Calls Tryz.prog 42 #[caV (hoC true) (.slice none 0 0) (.slice none 0 0) sv, ttV zTT'] w (Ret w (.tuple #[.bool true, .int .i64 0])) := by
  have h := aw_worst true zT zT_sh sv w hg S (by rw [tz]; exact hl1) (by rw [tz]; exact zE) _ _ wst_hole
  rw [tz] at h
  have := within_ok (hoC true) _ _ sv zTT' 25 0 w hg ((szV_int (n := 25) (v := 1) ((lng_le 25 (k := 2) (by omega)).2 (by decide))).mono (by omega) (by omega) : szV 25 475 21) (by decide) (by decide) h
  rwa [show fitB 25 ((hoC true).x.tol + (hoC true).b) = true from fit_hole] at this
theorem aw3 (sv : Value) (w : World) (hg : Good w) (S : CaS w (hoC true) (.slice none 0 0) (.slice none 0 0) sv [] hoL) : Calls Tryz.prog 43 #[caV (hoC true) (.slice none 0 0) (.slice none 0 0) sv, ttV zTT'] w (Ret w (.tuple #[.int .i64 10, .int .i64 0])) := by
  have h := aw_worst true zT zT_sh sv w hg S (by rw [tz]; exact hl1) (by rw [tz]; exact zE) _ _ wst_hole
  rw [tz] at h
  have := needed_ok (hoC true) _ _ sv zTT' 25 0 w hg ((szV_int (n := 25) (v := 1) ((lng_le 25 (k := 2) (by omega)).2 (by decide))).mono (by omega) (by omega) : szV 25 475 21) h
  rwa [ned_25] at this
theorem aw4 (sv : Value) (w : World) (hg : Good w) (S : CaS w (hoC false) (.slice none 0 0) (.slice none 0 0) sv [] hoL) : Calls Tryz.prog 43 #[caV (hoC false) (.slice none 0 0) (.slice none 0 0) sv, ttV zTT'] w (Ret w (.tuple #[.int .i64 8, .int .i64 0])) := by
  have h := aw_worst false zT zT_sh sv w hg S (by rw [tz]; exact hl1) (by rw [tz]; exact zE) _ _ wst_box
  rw [tz] at h
  have := needed_ok (hoC false) _ _ sv zTT' 16 0 w hg ((szV_int (n := 16) (v := 1) ((lng_le 16 (k := 2) (by omega)).2 (by decide))).mono (by omega) (by omega) : szV 16 475 21) h
  rwa [ned_16] at this
end Go.Proofs.Wk
/- POSITION, IN THE LAW: the examples. -/
namespace Go.Proofs.Wk
open Go.RowKit Mt Po

set_option maxRecDepth 100000 in
set_option maxHeartbeats 4000000 in
theorem zero_c (w : World) : Calls Tryz.prog 11 #[] w (Ret w (ttV zTT')) := by
  have hA := below_al w (.cells #[.string ⟨#[]⟩, .string ⟨#[]⟩, .string ⟨#[]⟩, .string ⟨#[]⟩, .string ⟨#[]⟩, .string ⟨#[]⟩] 38)
  have hr := heap_alloc_new w (.cells #[.string ⟨#[]⟩, .string ⟨#[]⟩, .string ⟨#[]⟩, .string ⟨#[]⟩, .string ⟨#[]⟩, .string ⟨#[]⟩] 38)
  go_enter Tryz.func11, Tryz.ntmps11
  go_upto_region 1 with fail
  generalize hW0 : w.alloc (.cells #[Value.string ⟨#[]⟩, .string ⟨#[]⟩, .string ⟨#[]⟩, .string ⟨#[]⟩, .string ⟨#[]⟩, .string ⟨#[]⟩] 38) = W0 at *
  clear hW0
  have hA1 := hA.nx (below_al W0 (.cells #[.string ⟨#[48]⟩, .string ⟨#[48]⟩, .string ⟨#[48]⟩, .string ⟨#[48]⟩, .string ⟨#[48]⟩, .string ⟨#[48]⟩] 35))
  have hr1 := keepD hr (below_al W0 (.cells #[.string ⟨#[48]⟩, .string ⟨#[48]⟩, .string ⟨#[48]⟩, .string ⟨#[48]⟩, .string ⟨#[48]⟩, .string ⟨#[48]⟩] 35))
  have hn := heap_alloc_new W0 (.cells #[.string ⟨#[48]⟩, .string ⟨#[48]⟩, .string ⟨#[48]⟩, .string ⟨#[48]⟩, .string ⟨#[48]⟩, .string ⟨#[48]⟩] 35)
  go_wp2_with fail
  ((with_reducible refine (made_c _ _ _ hn).mono ?_); rintro e w1 ⟨rfl, hb1⟩)
  have hr2 := keepD hr1 hb1
  have hA2 := hA1.nx hb1
  have hf := fun j => free_row hr2 j
  obtain ⟨z0, z1, z2, z3, z4, z5⟩ := c6row hr2
  have HR := Lib.hid hr2
  have HW := Lib.hid hA2
  clear hr2 hA2 hA hA1 hr hr1 hn hb1
  go_wp2
  refine bodyPost_ret (results_cell_row rfl _ _ w.heap.size 38 (ttC zTT') _ _ (by kernel_rfl) (s6row HR.out) Tryz.underlying38 rfl (by kernel_rfl)) rfl ?_
  exact ⟨rfl, (((((HW.out.cel (p := ⟨w.heap.size, 0, none⟩) (Nat.le_refl _) _).cel (p := ⟨w.heap.size, 1, none⟩) (Nat.le_refl _) _).cel (p := ⟨w.heap.size, 2, none⟩) (Nat.le_refl _) _).cel (p := ⟨w.heap.size, 3, none⟩) (Nat.le_refl _) _).cel (p := ⟨w.heap.size, 4, none⟩) (Nat.le_refl _) _).cel (p := ⟨w.heap.size, 5, none⟩) (Nat.le_refl _) _⟩
end Go.Proofs.Wk
/- POSITION, IN THE LAW: the examples. -/
namespace Go.Proofs.Wk
open Go.RowKit Mt Po

set_option maxRecDepth 100000 in
set_option maxHeartbeats 16000000 in
theorem awake_z (w : World) (hg : Good w) (HZ : ∀ W, Calls Tryz.prog 11 #[] W (Ret W (ttV zTT'))) : Calls Tryz.prog 9 #[] w (Ret w (.bool true)) := by
  have HGO := Lib.hid (fun (W : World) (h : Below w.heap.size w W) => hg.later h)
  clear hg
  go_enter Tryz.func9, Tryz.ntmps9
  go_wp2_with fail
  ((with_reducible refine (HZ _).mono ?_); rintro e w1 ⟨rfl, hb1⟩)
  have hr := heap_alloc_new w1 (.cells #[.string ⟨#[48]⟩, .string ⟨#[48]⟩, .string ⟨#[48]⟩, .string ⟨#[48]⟩, .string ⟨#[48]⟩, .string ⟨#[48]⟩] 38)
  have hB := hb1.nx (below_al w1 (.cells #[.string ⟨#[48]⟩, .string ⟨#[48]⟩, .string ⟨#[48]⟩, .string ⟨#[48]⟩, .string ⟨#[48]⟩, .string ⟨#[48]⟩] 38))
  go_upto_region 2 with fail
  generalize hW0 : w1.alloc (.cells #[.string ⟨#[48]⟩, .string ⟨#[48]⟩, .string ⟨#[48]⟩, .string ⟨#[48]⟩, .string ⟨#[48]⟩, .string ⟨#[48]⟩] 38) = W0 at *
  generalize w1.heap.size = g at *
  have HK := Lib.hid (fun (W : World) (h : Below W0.heap.size W0 W) => by
    obtain ⟨k0, k1, k2, k3, k4, k5⟩ := c6row (keepD hr h)
    exact (⟨k0, k1, k2, k3, k4, k5, h⟩ : W.cell? ⟨g, 0, none⟩ = some (.string ⟨#[48]⟩) ∧ W.cell? ⟨g, 1, none⟩ = some (.string ⟨#[48]⟩) ∧ W.cell? ⟨g, 2, none⟩ = some (.string ⟨#[48]⟩) ∧ W.cell? ⟨g, 3, none⟩ = some (.string ⟨#[48]⟩) ∧ W.cell? ⟨g, 4, none⟩ = some (.string ⟨#[48]⟩) ∧ W.cell? ⟨g, 5, none⟩ = some (.string ⟨#[48]⟩) ∧ Below W0.heap.size W0 W))
  have HGW := Lib.hid (fun (W : World) (h : Below W0.heap.size W0 W) => HGO.out W (hB.nx h))
  have HR := Lib.hid hr
  have HBB := Lib.hid hB
  have hB0 : Below W0.heap.size W0 W0 := Below.refl _ _
  clear hW0 hr hB hb1 HGO
  go_upto_region 2 with fail
  go_region_held3 (fun W => W.cell? ⟨g, 0, none⟩ = some (.string ⟨#[48]⟩) ∧ W.cell? ⟨g, 1, none⟩ = some (.string ⟨#[48]⟩) ∧ W.cell? ⟨g, 2, none⟩ = some (.string ⟨#[48]⟩) ∧ W.cell? ⟨g, 3, none⟩ = some (.string ⟨#[48]⟩) ∧ W.cell? ⟨g, 4, none⟩ = some (.string ⟨#[48]⟩) ∧ W.cell? ⟨g, 5, none⟩ = some (.string ⟨#[48]⟩) ∧ Below W0.heap.size W0 W)
    (first | with_reducible exact HK.out _ C1 | with_reducible exact HK.out _ D1 | with_reducible exact HK.out _ hB0 | with_reducible exact HK.out _ hB0.drew)
    (first
      | (go_at_call 41; (with_reducible refine (hole_c true _).mono ?_); rintro e v1 ⟨sv, rfl, hS, hb1⟩; (first | (with_reducible have D1 := hB0.drew.nx hb1) | (with_reducible have D1 := hB0.nx hb1)))
      | (go_at_call 40; (with_reducible refine (aw1 _ _ (HGW.out _ D1) hS).mono ?_); rintro e v2 ⟨rfl, hb2⟩; have C1 := D1.nx hb2; clear hS)
      | fail)
  clear D1 hb1 hb2
  go_upto_region 3 with fail
  go_region_held3 (fun W => W.cell? ⟨g, 0, none⟩ = some (.string ⟨#[48]⟩) ∧ W.cell? ⟨g, 1, none⟩ = some (.string ⟨#[48]⟩) ∧ W.cell? ⟨g, 2, none⟩ = some (.string ⟨#[48]⟩) ∧ W.cell? ⟨g, 3, none⟩ = some (.string ⟨#[48]⟩) ∧ W.cell? ⟨g, 4, none⟩ = some (.string ⟨#[48]⟩) ∧ W.cell? ⟨g, 5, none⟩ = some (.string ⟨#[48]⟩) ∧ Below W0.heap.size W0 W)
    (first | with_reducible exact HK.out _ C2 | with_reducible exact HK.out _ D2 | with_reducible exact HK.out _ C1 | with_reducible exact HK.out _ C1.drew)
    (first
      | (go_at_call 41; (with_reducible refine (hole_c true _).mono ?_); rintro e v1 ⟨sv, rfl, hS, hb1⟩; (first | (with_reducible have D2 := C1.drew.nx hb1) | (with_reducible have D2 := C1.nx hb1)))
      | (go_at_call 42; (with_reducible refine (aw2 _ _ (HGW.out _ D2) hS).mono ?_); rintro e v2 ⟨rfl, hb2⟩; have C2 := D2.nx hb2; clear hS)
      | fail)
  clear D2 hb1 hb2
  go_upto_region 4 with fail
  go_region_held3 (fun W => W.cell? ⟨g, 0, none⟩ = some (.string ⟨#[48]⟩) ∧ W.cell? ⟨g, 1, none⟩ = some (.string ⟨#[48]⟩) ∧ W.cell? ⟨g, 2, none⟩ = some (.string ⟨#[48]⟩) ∧ W.cell? ⟨g, 3, none⟩ = some (.string ⟨#[48]⟩) ∧ W.cell? ⟨g, 4, none⟩ = some (.string ⟨#[48]⟩) ∧ W.cell? ⟨g, 5, none⟩ = some (.string ⟨#[48]⟩) ∧ Below W0.heap.size W0 W)
    (first | with_reducible exact HK.out _ C3 | with_reducible exact HK.out _ D3 | with_reducible exact HK.out _ C2 | with_reducible exact HK.out _ C2.drew)
    (first
      | (go_at_call 41; (with_reducible refine (hole_c true _).mono ?_); rintro e v1 ⟨sv, rfl, hS, hb1⟩; (first | (with_reducible have D3 := C2.drew.nx hb1) | (with_reducible have D3 := C2.nx hb1)))
      | (go_at_call 43; (with_reducible refine (aw3 _ _ (HGW.out _ D3) hS).mono ?_); rintro e v2 ⟨rfl, hb2⟩; have C3 := D3.nx hb2; clear hS)
      | fail)
  clear D3 hb1 hb2
  go_upto_region 5 with fail
  go_region_held3 (fun W => W.cell? ⟨g, 0, none⟩ = some (.string ⟨#[48]⟩) ∧ W.cell? ⟨g, 1, none⟩ = some (.string ⟨#[48]⟩) ∧ W.cell? ⟨g, 2, none⟩ = some (.string ⟨#[48]⟩) ∧ W.cell? ⟨g, 3, none⟩ = some (.string ⟨#[48]⟩) ∧ W.cell? ⟨g, 4, none⟩ = some (.string ⟨#[48]⟩) ∧ W.cell? ⟨g, 5, none⟩ = some (.string ⟨#[48]⟩) ∧ Below W0.heap.size W0 W)
    (first | with_reducible exact HK.out _ C4 | with_reducible exact HK.out _ D4 | with_reducible exact HK.out _ C3 | with_reducible exact HK.out _ C3.drew)
    (first
      | (go_at_call 41; (with_reducible refine (hole_c false _).mono ?_); rintro e v1 ⟨sv, rfl, hS, hb1⟩; (first | (with_reducible have D4 := C3.drew.nx hb1) | (with_reducible have D4 := C3.nx hb1)))
      | (go_at_call 43; (with_reducible refine (aw4 _ _ (HGW.out _ D4) hS).mono ?_); rintro e v2 ⟨rfl, hb2⟩; have C4 := D4.nx hb2; clear hS)
      | fail)
  clear D4 hb1 hb2
  obtain ⟨k0, k1, k2, k3, k4, k5, -⟩ := HK.out _ C4
  have hr5 := heap_alloc_new v2 (.cells #[.string ⟨#[45, 51]⟩, .string ⟨#[45, 52]⟩, .string ⟨#[48]⟩, .string ⟨#[48]⟩, .string ⟨#[48]⟩, .string ⟨#[48]⟩] 38)
  have hB5 := (HBB.out.nx C4).nx (below_al v2 (.cells #[.string ⟨#[45, 51]⟩, .string ⟨#[45, 52]⟩, .string ⟨#[48]⟩, .string ⟨#[48]⟩, .string ⟨#[48]⟩, .string ⟨#[48]⟩] 38))
  have HG4 := Lib.hid (HGW.out _ C4)
  go_upto_region 8 with fail
  generalize hW5 : v2.alloc (.cells #[.string ⟨#[45, 51]⟩, .string ⟨#[45, 52]⟩, .string ⟨#[48]⟩, .string ⟨#[48]⟩, .string ⟨#[48]⟩, .string ⟨#[48]⟩] 38) = W5 at *
  generalize hg2 : v2.heap.size = g2 at *
  have HG5 := Lib.hid (fun (W : World) (h : Below W5.heap.size W5 W) => (by subst hW5; exact (HGW.out _ ((C4.nx (below_al v2 _)).nx h)) : Good W))
  have HK5 := Lib.hid (fun (W : World) (h : Below W5.heap.size W5 W) => by
    obtain ⟨k0, k1, k2, k3, k4, k5⟩ := c6row (keepD hr5 h)
    exact (⟨k0, k1, k2, k3, k4, k5, h⟩ : W.cell? ⟨g2, 0, none⟩ = some (.string ⟨#[45, 51]⟩) ∧ W.cell? ⟨g2, 1, none⟩ = some (.string ⟨#[45, 52]⟩) ∧ W.cell? ⟨g2, 2, none⟩ = some (.string ⟨#[48]⟩) ∧ W.cell? ⟨g2, 3, none⟩ = some (.string ⟨#[48]⟩) ∧ W.cell? ⟨g2, 4, none⟩ = some (.string ⟨#[48]⟩) ∧ W.cell? ⟨g2, 5, none⟩ = some (.string ⟨#[48]⟩) ∧ Below W5.heap.size W5 W))
  have HB5 := Lib.hid hB5
  have E0 : Below W5.heap.size W5 W5 := Below.refl _ _
  clear hW5 hg2 hr5 hB5 k0 k1 k2 k3 k4 k5 HG4 C4 hB0 HK HGW HR HBB HZ
  go_upto_region 8 with fail
  go_region_held3 (fun W => W.cell? ⟨g2, 0, none⟩ = some (.string ⟨#[45, 51]⟩) ∧ W.cell? ⟨g2, 1, none⟩ = some (.string ⟨#[45, 52]⟩) ∧ W.cell? ⟨g2, 2, none⟩ = some (.string ⟨#[48]⟩) ∧ W.cell? ⟨g2, 3, none⟩ = some (.string ⟨#[48]⟩) ∧ W.cell? ⟨g2, 4, none⟩ = some (.string ⟨#[48]⟩) ∧ W.cell? ⟨g2, 5, none⟩ = some (.string ⟨#[48]⟩) ∧ Below W5.heap.size W5 W)
    (first | with_reducible exact HK5.out _ C5 | with_reducible exact HK5.out _ D5 | with_reducible exact HK5.out _ E0 | with_reducible exact HK5.out _ E0.drew)
    (first
      | (go_at_call 41; (with_reducible refine (hole_c true _).mono ?_); rintro e v1 ⟨sv, rfl, hS, hb1⟩; (first | (with_reducible have D5 := E0.drew.nx hb1) | (with_reducible have D5 := E0.nx hb1)))
      | (go_at_call 40; (with_reducible refine (aw5 _ _ (HG5.out _ D5) hS).mono ?_); rintro e v2 ⟨rfl, hb2⟩; have C5 := D5.nx hb2; clear hS)
      | fail)
  clear D5 hb1 hb2
  have hw := HB5.out.nx C5
  clear HK5 HG5 E0 C5 HB5
  go_wp2
  go_ret
  exact ⟨rfl, hw⟩
end Go.Proofs.Wk
