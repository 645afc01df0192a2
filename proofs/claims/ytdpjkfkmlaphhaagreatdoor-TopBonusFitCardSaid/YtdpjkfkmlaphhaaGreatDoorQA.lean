/- POSITION: the kinds of frames, frames of a feature in the program. -/
import Derived.Test.YtdpjkfkmlaphhaaGreatDoorPC
import Derived.Test.YtdpjkfkmlaphhaaGreatDoorShelf
import Derived.Test.YtdpjkfkmlaphhaaGreatDoorPB
namespace Go.Proofs.Wk
open Go.RowKit Mt Po
def wdT : Nat → Txt
  | 0 => [115, 116, 114, 97, 105, 103, 104, 116]
  | 1 => [102, 108, 97, 116]
  | 2 => [112, 97, 114, 97, 108, 108, 101, 108]
  | 3 => [115, 113, 117, 97, 114, 101]
  | 4 => [114, 111, 117, 110, 100]
  | 5 => [115, 112, 104, 101, 114, 101]
  | 6 => [112, 114, 111, 102, 105, 108, 101]
  | 7 => [114, 117, 110, 111, 117, 116]
  | _ => [112, 111, 115, 105, 116, 105, 111, 110]
def onT : Nat → Txt
  | 0 => [104, 112]
  | 1 => [108, 115]
  | 2 => [108, 104, 112, 115]
  | 3 => [108, 104, 112, 115]
  | 4 => [104, 112, 98]
  | 5 => [98]
  | 6 => [108]
  | 7 => [108, 104, 112]
  | _ => [108, 104, 112, 115, 98]
def dsT : Nat → Txt
  | 0 => [104, 112]
  | 1 => []
  | 2 => [104, 112]
  | 3 => [104, 112]
  | 4 => []
  | 5 => []
  | 6 => []
  | 7 => []
  | _ => [104, 112, 98]
def onR : Nat → Txt
  | 0 => [72, 73]
  | 1 => [80, 83]
  | 2 => [80, 72, 73, 83]
  | 3 => [80, 72, 73, 83]
  | 4 => [72, 73, 66]
  | 5 => [66]
  | 6 => [80]
  | 7 => [80, 72, 73]
  | _ => [80, 72, 73, 83, 66]
def dsR : Nat → Txt
  | 0 => [72, 73]
  | 1 => []
  | 2 => [72, 73]
  | 3 => [72, 73]
  | 4 => []
  | 5 => []
  | 6 => []
  | 7 => []
  | _ => [72, 73, 66]
def lpI (k : Int) : Int := if k = 0 then 108 else if k = 1 then 104 else if k = 2 then 112 else if k = 3 then 115 else 98
def lrI (k : Int) : Int := if k = 0 then 80 else if k = 1 then 72 else if k = 2 then 73 else if k = 3 then 83 else 66
def pmF (on dn ma disc : Bool) (tol mat kind le mo : Int) (n : Nat) : Int :=
  if on = false then 14
  else if disc = true ∧ dn = false then 3
  else if tol = 0 ∧ mat ≠ 1 then 10
  else if mat ≠ 0 ∧ (ma = false ∨ kind = 0) then 3
  else if (n : Int) < le then 13
  else if mo < (n : Int) then 5 else 0
theorem pmE_eq (f : Ft) (x : Fm) (n : Nat) : pmE f x n = pmF ((onK x.kind.toNat).contains f.kind) ((dsK x.kind.toNat).contains f.kind) (maK x.kind.toNat) x.disc x.tol x.mat f.kind (leK x.kind.toNat) (moK x.kind.toNat) n := rfl
theorem nine {k : Nat} (h : k < 9) : k = 0 ∨ k = 1 ∨ k = 2 ∨ k = 3 ∨ k = 4 ∨ k = 5 ∨ k = 6 ∨ k = 7 ∨ k = 8 := by omega
theorem five {k : Int} (h : 0 ≤ k ∧ k < 5) : k = 0 ∨ k = 1 ∨ k = 2 ∨ k = 3 ∨ k = 4 := by omega
theorem on_tab {k : Nat} {j : Int} (hk : k < 9) (hj : 0 ≤ j ∧ j < 5) : decide (0 ≤ Lib.indexByte (onT k) (lpI j).toNat.toUInt8) = (onK k).contains j := by
  rcases nine hk with rfl | rfl | rfl | rfl | rfl | rfl | rfl | rfl | rfl <;> rcases five hj with rfl | rfl | rfl | rfl | rfl <;> decide +kernel
theorem ds_tab {k : Nat} {j : Int} (hk : k < 9) (hj : 0 ≤ j ∧ j < 5) : decide (0 ≤ Lib.indexByte (dsT k) (lpI j).toNat.toUInt8) = (dsK k).contains j := by
  rcases nine hk with rfl | rfl | rfl | rfl | rfl | rfl | rfl | rfl | rfl <;> rcases five hj with rfl | rfl | rfl | rfl | rfl <;> decide +kernel
set_option maxRecDepth 100000 in
theorem lp_run {j : Int} (hj : 0 ≤ j ∧ j < 5) : ∀ W, (Instr.index 9 (.string ⟨#[108, 104, 112, 115, 98]⟩) (.int .i64 j)).run Tryz.prog W = .ok (.int .u8 (lpI j)) W := by
  intro W
  rcases five hj with rfl | rfl | rfl | rfl | rfl
  all_goals rfl
set_option maxRecDepth 100000 in
abbrev frwC : Array Value := #[.string ⟨#[115, 116, 114, 97, 105, 103, 104, 116]⟩, .string ⟨#[104, 112]⟩, .string ⟨#[104, 112]⟩, .int .i64 0, .int .i64 0, .bool true, .string ⟨#[102, 108, 97, 116]⟩, .string ⟨#[108, 115]⟩, .string ⟨#[]⟩, .int .i64 0, .int .i64 0, .bool false, .string ⟨#[112, 97, 114, 97, 108, 108, 101, 108]⟩, .string ⟨#[108, 104, 112, 115]⟩, .string ⟨#[104, 112]⟩, .int .i64 1, .int .i64 2, .bool true, .string ⟨#[115, 113, 117, 97, 114, 101]⟩, .string ⟨#[108, 104, 112, 115]⟩, .string ⟨#[104, 112]⟩, .int .i64 1, .int .i64 2, .bool true, .string ⟨#[114, 111, 117, 110, 100]⟩, .string ⟨#[104, 112, 98]⟩, .string ⟨#[]⟩, .int .i64 0, .int .i64 0, .bool false, .string ⟨#[115, 112, 104, 101, 114, 101]⟩, .string ⟨#[98]⟩, .string ⟨#[]⟩, .int .i64 0, .int .i64 0, .bool false, .string ⟨#[112, 114, 111, 102, 105, 108, 101]⟩, .string ⟨#[108]⟩, .string ⟨#[]⟩, .int .i64 0, .int .i64 3, .bool false, .string ⟨#[114, 117, 110, 111, 117, 116]⟩, .string ⟨#[108, 104, 112]⟩, .string ⟨#[]⟩, .int .i64 1, .int .i64 1, .bool false, .string ⟨#[112, 111, 115, 105, 116, 105, 111, 110]⟩, .string ⟨#[108, 104, 112, 115, 98]⟩, .string ⟨#[104, 112, 98]⟩, .int .i64 0, .int .i64 3, .bool true]
set_option maxRecDepth 100000 in
abbrev frwZ : Array Value := #[.string ⟨#[]⟩, .string ⟨#[]⟩, .string ⟨#[]⟩, .int .i64 0, .int .i64 0, .bool false, .string ⟨#[]⟩, .string ⟨#[]⟩, .string ⟨#[]⟩, .int .i64 0, .int .i64 0, .bool false, .string ⟨#[]⟩, .string ⟨#[]⟩, .string ⟨#[]⟩, .int .i64 0, .int .i64 0, .bool false, .string ⟨#[]⟩, .string ⟨#[]⟩, .string ⟨#[]⟩, .int .i64 0, .int .i64 0, .bool false, .string ⟨#[]⟩, .string ⟨#[]⟩, .string ⟨#[]⟩, .int .i64 0, .int .i64 0, .bool false, .string ⟨#[]⟩, .string ⟨#[]⟩, .string ⟨#[]⟩, .int .i64 0, .int .i64 0, .bool false, .string ⟨#[]⟩, .string ⟨#[]⟩, .string ⟨#[]⟩, .int .i64 0, .int .i64 0, .bool false, .string ⟨#[]⟩, .string ⟨#[]⟩, .string ⟨#[]⟩, .int .i64 0, .int .i64 0, .bool false, .string ⟨#[]⟩, .string ⟨#[]⟩, .string ⟨#[]⟩, .int .i64 0, .int .i64 0, .bool false]
set_option maxRecDepth 100000 in
set_option maxHeartbeats 4000000 in
theorem frows_c (w : World) : Calls Tryz.prog 103 #[] w (Ret w (.agg frwC)) := by
  have hB : Below w.heap.size w (w.alloc (.cells frwC 182)) := (Below.refl _ _).alloc (Nat.le_refl _) _
  go_enter Tryz.func103, Tryz.ntmps103
  go_upto_region 1 with fail
  rename_i K0 hK0
  refine wp_region_lit ?_
  iterate 9 (refine wpList_plain rfl fun K hK => ?_; go_simp; refine hK _ _ ?_; clear hK; clear K)
  refine wpList_build rfl 182 _ rfl (by kernel_rfl) ?_
  refine wpList_store_row rfl 182 (.tmp 0) (.tmp 10) rfl w.heap.size frwC rfl (by kernel_rfl) 182 frwZ (heap_alloc_new w _) (by kernel_rfl) rfl (by kernel_rfl) ?_
  rw [World.setRow_alloc_new]
  refine wpList_nil ?_
  refine hK0 _ _ (wp_ret ?_)
  refine bodyPost_ret (results_cell_row rfl _ _ w.heap.size 182 frwC _ _ (by kernel_rfl) (heap_alloc_new w _) Tryz.underlying182 rfl (by kernel_rfl)) rfl ?_
  exact ⟨rfl, hB⟩
set_option maxRecDepth 100000 in
set_option maxHeartbeats 4000000 in
theorem frw_run {k : Nat} (hk : k < 9) : ∀ W, (Instr.index 182 (.agg frwC) (.int .i64 (k : Int))).run Tryz.prog W = .ok (.agg #[.string ⟨(wdT k).toArray⟩, .string ⟨(onT k).toArray⟩, .string ⟨(dsT k).toArray⟩, .int .i64 (leK k), .int .i64 (moK k), .bool (maK k)]) W := by
  rcases nine hk with rfl | rfl | rfl | rfl | rfl | rfl | rfl | rfl | rfl <;> exact fun W => rfl
set_option maxRecDepth 100000 in
theorem fis_c (s : Txt) (ab : Nat) (j : Int) (w : World) (hj : 0 ≤ j ∧ j < 5) (hc : w.cell? ⟨ab, 1, none⟩ = some (.int .i64 j)) :
    Calls Tryz.prog 104 #[.string ⟨s.toArray⟩, .pointer (some ⟨ab, 0, none⟩)] w (Pur w (.bool (decide (0 ≤ Lib.indexByte s (lpI j).toNat.toUInt8)))) := by
  have hr := lp_run hj
  have HI := Lib.hid (fun W => Tryz.strings_IndexByte ⟨s.toArray⟩ (lpI j) W)
  simp only at HI
  generalize lpI j = l at *
  generalize Lib.indexByte s l.toNat.toUInt8 = r at *
  go_enter Tryz.func104, Tryz.ntmps104
  go_wp2_with fail
  ((with_reducible refine (HI.out _).mono ?_); rintro e w' ⟨rfl, rfl⟩)
  go_wp2
  go_ret
  exact ⟨rfl, rfl⟩
set_option maxRecDepth 100000 in
set_option maxHeartbeats 16000000 in
theorem frCheck_c {fv dv : Value} (f : Ft) (x : Fm) (ds : List Dt) (w : World) (D : DtS w dv ds) (hn : f.nm.length ≤ 140737488355328) : Calls Tryz.prog 57 #[ftV f fv, frV x dv] w (Ret w (.int .i64 (frE f x ds))) := by
  have HF := Lib.hid (fun W => fea_c f fv W hn)
  have HP := Lib.hid (fun W (h : Below w.heap.size w W) => plain_c x ds W (D.later h))
  have HRW := Lib.hid (fun W => frows_c W)
  have HOK := Lib.hid (fun (h : ftE f = 0) => (ftE_ok h).1)
  have HOP := Lib.hid (fun (h : plE x ds = 0) => (plE_ok h).1)
  have HDS := Lib.hid (fun W (h : Below w.heap.size w W) => D.later h)
  obtain ⟨nm, kind, axis, ⟨px, py, pz⟩, lo, hi⟩ := f
  obtain ⟨k, disc, tol, mat⟩ := x
  have hT := Tw.new w [.string ⟨nm.toArray⟩, .int .i64 kind, .int .i64 axis, .int .i64 px, .int .i64 py, .int .i64 pz, .int .i64 lo, .int .i64 hi, fv] [.int .i64 k, .bool disc, .int .i64 tol, .int .i64 mat, dv] 28 31
  obtain ⟨E, hE⟩ : ∃ E, frE ⟨nm, kind, axis, ⟨px, py, pz⟩, lo, hi⟩ ⟨k, disc, tol, mat⟩ ds = E := ⟨_, rfl⟩
  rw [hE]
  unfold frE at hE
  rw [pmE_eq] at hE
  simp only at hE HOK HOP
  have HE := Lib.hid hE
  clear hE hn
  generalize ftE ⟨nm, kind, axis, ⟨px, py, pz⟩, lo, hi⟩ = FE at *
  generalize plE ⟨k, disc, tol, mat⟩ ds = PE at *
  obtain ⟨sa, cap, rfl, -⟩ := D.form
  clear D
  go_enter Tryz.func57, Tryz.ntmps57
  go_upto_region 1 with fail
  generalize (w.alloc (.cells [Value.string ⟨nm.toArray⟩, .int .i64 kind, .int .i64 axis, .int .i64 px, .int .i64 py, .int .i64 pz, .int .i64 lo, .int .i64 hi, fv].toArray 28)).alloc (.cells [Value.int .i64 k, .bool disc, .int .i64 tol, .int .i64 mat, .slice sa ds.length cap].toArray 31) = W0 at *
  generalize w.heap.size + 1 = gx at *
  obtain ⟨c0, c1, c2, c3, c4, c5, c6, c7, c8⟩ := c9row hT.a
  go_wp2_with fail
  ((with_reducible refine (HF.out _).mono ?_); rintro e w1 ⟨rfl, hb1⟩)
  have hT1 := hT.later hb1
  clear c0 c1 c2 c3 c4 c5 c6 c7 c8 hb1 hT
  by_cases hF : FE = 0
  rotate_left
  · obtain rfl : FE = E := by have := HE.out; rwa [if_pos hF] at this
    have h3 := bne_ne hF
    have hZ := hT1.w
    clear HE hT1 HF
    go_wp2
    go_ret
    exact ⟨rfl, hZ⟩
  have hkd := HOK.out hF
  subst hF
  replace HE := HE.out
  rw [if_neg (show ¬ (0 : Int) ≠ 0 from by simp)] at HE
  replace HE := Lib.hid HE
  obtain ⟨x0, x1, x2, x3, x4⟩ := c5row hT1.b
  go_wp2_with fail
  ((with_reducible refine (HP.out _ hT1.w).mono ?_); rintro e w2 ⟨rfl, hb2⟩)
  have hT2 := hT1.later hb2
  clear x0 x1 x2 x3 x4 hb2 hT1
  by_cases hP : PE = 0
  rotate_left
  · obtain rfl : PE = E := by have := HE.out; rwa [if_pos hP] at this
    have h3 := bne_ne hP
    have hZ := hT2.w
    clear HE hT2 HP HF
    go_wp2
    go_ret
    exact ⟨rfl, hZ⟩
  have hk := HOP.out hP
  subst hP
  replace HE := HE.out
  rw [if_neg (show ¬ (0 : Int) ≠ 0 from by simp)] at HE
  obtain ⟨K, rfl⟩ : ∃ K : Nat, k = (K : Int) := ⟨k.toNat, by omega⟩
  have hK : K < 9 := by omega
  simp only [Int.toNat_natCast] at HE
  replace HE := Lib.hid HE
  have hix := frw_run hK
  have HON := Lib.hid (fun W (h : W.cell? ⟨w.heap.size, 1, none⟩ = some (.int .i64 kind)) => fis_c (onT K) w.heap.size kind W hkd h)
  have HDN := Lib.hid (fun W (h : W.cell? ⟨w.heap.size, 1, none⟩ = some (.int .i64 kind)) => fis_c (dsT K) w.heap.size kind W hkd h)
  rw [on_tab hK hkd] at HON
  rw [ds_tab hK hkd] at HDN
  generalize (onK K).contains kind = ON at *
  generalize (dsK K).contains kind = DN at *
  generalize onT K = OT at *
  generalize dsT K = DT at *
  generalize wdT K = WT at *
  generalize leK K = le at *
  generalize moK K = mo at *
  generalize maK K = ma at *
  generalize (Value.agg frwC) = FW at *
  clear hk HOK HOP HF HP
  go_upto_region 7 with fail
  have HT := Lib.hid hT2
  obtain ⟨x0, x1, x2, x3, x4⟩ := c5row hT2.b
  have a0 : ∀ o, (w2.alloc o).cell? ⟨gx, 0, none⟩ = some (.int .i64 (K : Int)) := fun o => (World.cell?_alloc_lt w2 o ⟨gx, 0, none⟩ hT2.lt2).trans x0
  have hlt2 := hT2.lt2
  clear hT2 x1 x2 x3 x4
  go_cut [7] (fun s7 wx => ∃ g, s7 = .pointer (some ⟨g, 0, none⟩) ∧ Hid (wx.heap[g]? = some (.cells #[.string ⟨WT.toArray⟩, .string ⟨OT.toArray⟩, .string ⟨DT.toArray⟩, .int .i64 le, .int .i64 mo, .bool ma] 181 (0, 0))) ∧ Hid (Tw w wx w.heap.size gx (.cells #[.string ⟨nm.toArray⟩, .int .i64 kind, .int .i64 axis, .int .i64 px, .int .i64 py, .int .i64 pz, .int .i64 lo, .int .i64 hi, fv] 28 (0, 0)) (.cells #[.int .i64 (K : Int), .bool disc, .int .i64 tol, .int .i64 mat, .slice sa ds.length cap] 31 (0, 0))))
  case first =>
    go_region_with (first
      | (go_at_call 103; (with_reducible refine (HRW.out _).mono ?_); rintro e w3 ⟨rfl, hb3⟩;
          (first
            | ((with_reducible have T3 := HT.out.drew.later hb3); obtain ⟨x0, x1, x2, x3, x4⟩ := c5row T3.b; have hlt3 := T3.lt2)
            | ((with_reducible have T3 := HT.out.later hb3); obtain ⟨x0, x1, x2, x3, x4⟩ := c5row T3.b; have hlt3 := T3.lt2)
            | (have hb3' : Below (w2.alloc (.cells #[.string ⟨#[]⟩, .string ⟨#[]⟩, .string ⟨#[]⟩, .int .i64 0, .int .i64 0, .bool false] 181)).heap.size (w2.alloc (.cells #[.string ⟨#[]⟩, .string ⟨#[]⟩, .string ⟨#[]⟩, .int .i64 0, .int .i64 0, .bool false] 181)) w3 := ⟨hb3.os, hb3.tape, hb3.output, hb3.size, hb3.block⟩;
               have T3 := (HT.out.later (below_al w2 (.cells #[.string ⟨#[]⟩, .string ⟨#[]⟩, .string ⟨#[]⟩, .int .i64 0, .int .i64 0, .bool false] 181))).later hb3'; have hzz := keepD (heap_alloc_new w2 (.cells #[.string ⟨#[]⟩, .string ⟨#[]⟩, .string ⟨#[]⟩, .int .i64 0, .int .i64 0, .bool false] 181)) hb3'; obtain ⟨z0, z1, z2, z3, z4, z5⟩ := c6row hzz; have fz := (fun j => free_row hzz j);
               obtain ⟨x0, x1, x2, x3, x4⟩ := c5row T3.b; have hlt3 := T3.lt2)))
      | fail)
    all_goals (go_wp2_with fail; go_meet)
    all_goals
      first
        | with_reducible exact ⟨_, rfl, Lib.hid (heap_alloc_new w3 _), Lib.hid (T3.later (below_al w3 _))⟩
        | with_reducible exact ⟨_, rfl, Lib.hid (s6row hzz), Lib.hid (T3.set6 (Nat.ne_of_lt HT.out.lt1) (Nat.ne_of_lt HT.out.lt2) HT.out.w.size _ _ _ _ _ _)⟩
        | trace_state
  case rest =>
    obtain ⟨g, rfl, HRG, HT3⟩ := hcut
    clear HT a0 x0 hix HRW
    obtain ⟨c0, c1, c2, c3, c4, c5, c6, c7, c8⟩ := c9row HT3.out.a
    obtain ⟨x0, x1, x2, x3, x4⟩ := c5row HT3.out.b
    obtain ⟨r0, r1, r2, r3, r4, r5⟩ := c6row HRG.out
    have hZ := HT3.out.w
    have HC7 := Lib.hid (dcf2_c ds nm w.heap.size wc (HDS.out _ hZ).1 c0 (HDS.out _ hZ).2.1)
    generalize (ds.any fun d => d.nm == nm) = AN at *
    clear c2 c3 c4 c5 c6 c7 c8
    go_wp2_with fail
    ((with_reducible refine (HON.out _ c1).mono ?_); rintro e w4 ⟨rfl, rfl⟩)
    clear r0 r1 c0
    replace HE := HE.out
    by_cases hON : ON = false
    · subst hON
      obtain rfl : 14 = E := by unfold pmF at HE; rwa [if_pos rfl, if_pos (by decide)] at HE
      clear HE HC7 HON HDN
      go_wp2
      go_ret
      exact ⟨rfl, hZ⟩
    obtain rfl : ON = true := by simpa using hON
    clear hON
    have HPM : ∀ e, pmF true DN ma disc tol mat kind le mo ds.length = e → e ≠ 0 → e = E := fun e h1 h2 => by rw [h1, if_pos h2] at HE; exact HE
    have HP0 : pmF true DN ma disc tol mat kind le mo ds.length = 0 → (if AN = true then 7 else 0) = E := fun h1 => by rw [h1, if_neg (show ¬ (0 : Int) ≠ 0 from by simp)] at HE; exact HE
    clear HE
    have QPM := Lib.hid HPM
    have QP0 := Lib.hid HP0
    clear HPM HP0
    unfold pmF at QPM QP0
    rw [if_neg (show ¬ true = false from by simp)] at QPM QP0
    go_upto_region 11 with fail
    go_cut [30] (fun s wx => s = .bool (disc && !DN) ∧ wc = wx)
    case first =>
      cases disc with
      | false =>
        go_wp2_with fail
        go_meet
        exact ⟨rfl, rfl⟩
      | true =>
        go_wp2_with fail
        ((with_reducible refine (HDN.out _ c1).mono ?_); rintro e w5 ⟨rfl, rfl⟩)
        go_wp2_with fail
        go_meet
        exact ⟨rfl, rfl⟩
    case rest =>
    obtain ⟨rfl, rfl⟩ := hcut
    clear r2 HDN
    by_cases hd : disc = true ∧ DN = false
    · obtain rfl : 3 = E := QPM.out _ (if_pos hd) (by decide)
      obtain ⟨rfl, rfl⟩ := hd
      clear QPM QP0 HC7
      go_wp2
      go_ret
      exact ⟨rfl, hZ⟩
    rw [if_neg hd] at QPM QP0
    have hd2 : (disc && !DN) = false := by cases disc <;> cases DN <;> simp at hd ⊢
    clear hd
    generalize (disc && !DN) = DB at *
    subst hd2
    go_upto_region 13 with fail
    go_cut [40] (fun s wx => s = .bool (tol == 0 && mat != 1) ∧ wc = wx)
    case first =>
      cases q : (tol == 0) with
      | false =>
        go_wp2_with fail
        go_meet
        exact ⟨by rw [q]; rfl, rfl⟩
      | true =>
        go_wp2_with fail
        go_meet
        exact ⟨by rw [q]; rfl, rfl⟩
    case rest =>
    obtain ⟨rfl, rfl⟩ := hcut
    by_cases ht : tol = 0 ∧ mat ≠ 1
    · obtain rfl : 10 = E := QPM.out _ (if_pos ht) (by decide)
      have hb : (tol == 0 && mat != 1) = true := by rw [Bool.and_eq_true, beq_iff_eq, bne_iff_ne]; exact ht
      rw [hb]
      clear QPM QP0 HC7 ht
      go_wp2
      go_ret
      exact ⟨rfl, hZ⟩
    rw [if_neg ht] at QPM QP0
    have hb : (tol == 0 && mat != 1) = false := by rw [Bool.eq_false_iff]; intro c; rw [Bool.and_eq_true, beq_iff_eq, bne_iff_ne] at c; exact ht c
    clear ht
    rw [hb]
    clear hb
    go_upto_region 15 with fail
    go_cut [49] (fun s wx => s = .bool (mat != 0 && (!ma || kind == 0)) ∧ wc = wx)
    case first =>
      cases q : (mat != 0) with
      | false =>
        go_wp2_with fail
        go_meet
        exact ⟨by rw [q]; rfl, rfl⟩
      | true =>
        cases ma with
        | false =>
          go_wp2_with fail
          go_meet
          exact ⟨by rw [q]; rfl, rfl⟩
        | true =>
          go_wp2_with fail
          go_meet
          exact ⟨by rw [q]; rfl, rfl⟩
    case rest =>
    obtain ⟨rfl, rfl⟩ := hcut
    by_cases hm : mat ≠ 0 ∧ (ma = false ∨ kind = 0)
    · obtain rfl : 3 = E := QPM.out _ (if_pos hm) (by decide)
      have hb : (mat != 0 && (!ma || kind == 0)) = true := by
        rw [Bool.and_eq_true, bne_iff_ne, Bool.or_eq_true, beq_iff_eq]
        exact ⟨hm.1, hm.2.imp (fun e => by rw [e]; rfl) id⟩
      rw [hb]
      clear QPM QP0 HC7 hm
      go_wp2
      go_ret
      exact ⟨rfl, hZ⟩
    rw [if_neg hm] at QPM QP0
    have hb : (mat != 0 && (!ma || kind == 0)) = false := by
      rw [Bool.eq_false_iff]; intro c
      rw [Bool.and_eq_true, bne_iff_ne, Bool.or_eq_true, beq_iff_eq] at c
      exact hm ⟨c.1, c.2.imp (fun e => by simpa using e) id⟩
    clear hm
    rw [hb]
    clear hb x2 x3 r5 c1 x1
    by_cases h1 : (ds.length : Int) < le
    · obtain rfl : 13 = E := QPM.out _ (if_pos h1) (by decide)
      clear QPM QP0 HC7
      go_wp2
      go_ret
      exact ⟨rfl, hZ⟩
    rw [if_neg h1] at QPM QP0
    by_cases h2 : mo < (ds.length : Int)
    · obtain rfl : 5 = E := QPM.out _ (if_pos h2) (by decide)
      clear QPM QP0 HC7
      go_wp2
      go_ret
      exact ⟨rfl, hZ⟩
    rw [if_neg h2] at QPM QP0
    have HE2 := Lib.hid (QP0.out rfl)
    clear QPM QP0
    go_wp2_with fail
    ((with_reducible refine (HC7.out).mono ?_); rintro e w6 ⟨rfl, hb6⟩)
    have hZ2 := hZ.nx hb6
    cases AN with
    | true =>
      obtain rfl : 7 = E := by have := HE2.out; rwa [if_pos rfl] at this
      clear HE2
      go_wp2
      go_ret
      exact ⟨rfl, hZ2⟩
    | false =>
      obtain rfl : 0 = E := by have := HE2.out; rwa [if_neg (by simp)] at this
      clear HE2
      go_wp2
      go_ret
      exact ⟨rfl, hZ2⟩
end Go.Proofs.Wk
