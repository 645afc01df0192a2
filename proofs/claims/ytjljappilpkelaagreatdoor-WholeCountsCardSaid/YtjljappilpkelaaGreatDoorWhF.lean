/- THE PROGRAM's MAGNITUDES: sums with signs; products. -/
import Derived.Test.YtjljappilpkelaaGreatDoorWhE
namespace Go.Proofs.Wk
open Go.RowKit Mt

/-- The sum of two integers, as sign and magnitude. -/
def addS (sx : Bool) (X : Nat) (sy : Bool) (Y : Nat) : Bool × Nat := if sx = sy then (sx, X + Y) else if Y ≤ X then (sx, X - Y) else (sy, Y - X)

theorem CW.drewN {w : World} {b : Nat} {s : Bool} {m : Nat} (h : CW w b s m) (k : Nat) : CW (w.drewN k) b s m := ⟨h.1, h.2.drewN k⟩
theorem setRow_gb {w w0 : World} {g : Nat} (h : w0.grownBy w (some g)) (cs : Array Value) : w0.grownBy (w.setRow g cs) (some g) := by
  refine ⟨h.os, h.tape, h.output, by rw [size_setRow]; exact h.size, fun k hk hne => ?_⟩
  rw [setRow_other _ _ _ _ (by rintro rfl; exact hne rfl)]
  exact h.block k hk hne
theorem gb_alloc {w w' : World} {r : Option Nat} (h : w.grownBy w' r) (o : Obj) : w.grownBy (w'.alloc o) r :=
  gb_trans h (World.grownBy_alloc w' o r)
theorem gb_other {w w' w2 : World} {r : Option Nat} {g : Nat} (h : w.grownBy w' r) (k : w'.grownBy w2 (some g)) (hg : w.heap.size ≤ g) : w.grownBy w2 r :=
  ⟨k.os.trans h.os, k.tape.trans h.tape, k.output.trans h.output, Nat.le_trans h.size k.size, fun i hi hne =>
    (k.block i (Nat.lt_of_lt_of_le hi h.size) (by rintro ⟨⟩; omega)).trans (h.block i hi hne)⟩

set_option maxRecDepth 100000 in
set_option maxHeartbeats 4000000 in
theorem plus_c (bx bz : Nat) (sx sy : Bool) (X Y : Nat) (w : World) (hx : CW w bx sx X) (hy : CW w bz sy Y) (hne : bx ≠ bz) (hs : X + Y < wmax) :
    Calls Tryz.prog 74 #[.pointer (some ⟨bx, 0, none⟩), .pointer (some ⟨bz, 0, none⟩)] w (Chg w bx (addS sx X sy Y).1 (addS sx X sy Y).2 (.tuple #[])) := by
  have h0x := hx.2.c0
  have h0y := hy.2.c0
  by_cases hss : sx = sy
  · subst hss
    have e : addS sx X sx Y = (sx, X + Y) := by unfold addS; rw [if_pos rfl]
    rw [e]
    clear e
    have HX := Lib.hid hx; have HY := Lib.hid hy; have HNE := Lib.hid hne
    clear hx hy hne
    have hb : (sx == sx) = true := by simp
    go_enter Tryz.func74, Tryz.ntmps74
    go_wp2_with fail
    go_quiet (fail)
    go_wp2_with fail
    refine (carry_c bx bz sx sx X Y (X + Y) 1 0 (w.drewN nq) (HX.out.drewN nq) (HY.out.drewN nq) HNE.out (by omega) (by omega) (by have := HY.out.wl; omega) (by simp) hs).mono ?_
    rintro e w1 ⟨rfl, hC, hG⟩
    go_wp2
    go_end0
    exact ⟨rfl, hC, gb_trans (gb_drewN (gb_refl _ _) nq) hG⟩
  · have hb : (sx == sy) = false := by simpa using hss
    by_cases hge : Y ≤ X
    · have e : addS sx X sy Y = (sx, X - Y) := by unfold addS; rw [if_neg hss, if_pos hge]
      rw [e]
      clear e hss
      have HX := Lib.hid hx; have HY := Lib.hid hy; have HNE := Lib.hid hne
      clear hx hy hne
      go_enter Tryz.func74, Tryz.ntmps74
      go_wp2_with fail
      go_quiet (fail)
      go_wp2_with fail
      refine (beyond_c bx bz sx sy X Y (w.drewN nq) (HX.out.drewN nq) (HY.out.drewN nq)).mono ?_
      rintro e w1 ⟨d, rfl, hd, _, k, rfl⟩
      have hd2 := hd hge
      clear hd
      go_wp2_with fail
      refine (carry_c bx bz sx sy X Y (X - Y) (-1) 0 _ (HX.out.drewN _) (HY.out.drewN _) HNE.out (by omega) (by omega) (by have := HY.out.wl; omega) (by simp; omega) (by omega)).mono ?_
      rintro e w1 ⟨rfl, hC, hG⟩
      go_wp2
      go_end0
      exact ⟨rfl, hC, gb_trans (gb_drewN (gb_refl _ _) _) hG⟩
    · have e : addS sx X sy Y = (sy, Y - X) := by unfold addS; rw [if_neg hss, if_neg hge]
      rw [e]
      clear e hss
      have hylt := hy.lt
      have HX := Lib.hid hx; have HY := Lib.hid hy; have HNE := Lib.hid hne
      clear hx hy hne
      go_enter Tryz.func74, Tryz.ntmps74
      go_wp2_with fail
      go_quiet (fail)
      go_wp2_with fail
      refine (beyond_c bx bz sx sy X Y (w.drewN nq) (HX.out.drewN nq) (HY.out.drewN nq)).mono ?_
      rintro e w1 ⟨d, rfl, _, hd, k, rfl⟩
      have hd2 := hd (by omega)
      clear hd
      have hYb : (w.drewN (nq + k)).heap[bz]? = some (.cells (wcells sy (wlen Y) (wds Y)).toArray 73 (0, 0)) := HY.out.2.blk
      have HYB := Lib.hid hYb
      clear hYb
      have hz0 : ((w.drewN (nq + k)).alloc (.cells Tryz.zeroCells73 73)).heap[w.heap.size]? = some (.cells Tryz.zeroCells73 73 (0, 0)) := heap_alloc_new (w.drewN (nq + k)) _
      have HZ0 := Lib.hid hz0
      clear hz0
      have hsz : (Tryz.prog.info? 73).map (·.size) = some (wcells sy (wlen Y) (wds Y)).toArray.size := by rw [wcells_len (wds_length Y)]; exact info_wide
      have hone : (wcells sy (wlen Y) (wds Y)).toArray.all (·.oneCell') = true := by
        rw [Array.all_eq_true_iff_forall_mem]; intro v hv; exact wcells_one _ _ _ v (by simpa using hv)
      have HSZ := Lib.hid hsz; have HONE := Lib.hid hone
      clear hsz hone
      have hzl : Tryz.zeroCells73.size = (wcells sy (wlen Y) (wds Y)).toArray.size := by rw [wcells_len (wds_length Y)]; kernel_rfl
      have HZL := Lib.hid hzl
      clear hzl
      go_wp2_with (first | (refine wpList_load_row rfl 73 _ rfl bz rfl 73 (wcells sy (wlen Y) (wds Y)).toArray (0, 0) _ HYB.out Tryz.underlying73 rfl HSZ.out ?_) | (refine wpList_store_row rfl 73 _ _ rfl w.heap.size (wcells sy (wlen Y) (wds Y)).toArray rfl rfl 73 _ HZ0.out HSZ.out HZL.out HONE.out ?_))
      obtain ⟨W4, hW4⟩ : ∃ W4, W4 = (((w.drewN (nq + k)).alloc (.cells Tryz.zeroCells73 73)).setRow w.heap.size (wcells sy (wlen Y) (wds Y)).toArray) := ⟨_, rfl⟩
      have hG4 : w.grownBy W4 none := by
        rw [hW4]
        exact gb_other (g := w.heap.size) (gb_alloc (gb_drewN (gb_refl w none) (nq + k)) (.cells Tryz.zeroCells73 73)) (setRow_gb (gb_refl _ _) _) (Nat.le_refl _)
      have hz4 : CW W4 w.heap.size sy Y := ⟨HY.out.1, wds_length Y, by rw [hW4]; exact setRow_heap _ _ _ _ _ _ HZ0.out⟩
      have hx4 : CW W4 bx sx X := HX.out.kept hG4 (by simp)
      have hsz4 : w.heap.size < W4.heap.size := hz4.lt
      rw [← hW4]
      have hxlt := HX.out.lt
      have HG4 := Lib.hid hG4; have HZ4 := Lib.hid hz4; have HX4 := Lib.hid hx4
      clear hG4 hz4 hx4 hW4
      refine (carry_c w.heap.size bx sy sx Y X (Y - X) (-1) 0 W4 HZ4.out HX4.out (by omega) (by omega) (by omega) (by have := HX.out.wl; omega) (by simp; omega) (by omega)).mono ?_
      rintro e w1 ⟨rfl, hC, hG⟩
      have hCb := hC.2.blk
      have hXb := (HX4.out.kept hG (by intro e; have := Option.some.inj e; omega)).2.blk
      have HCB := Lib.hid hCb; have HXB := Lib.hid hXb; have HC := Lib.hid hC; have HG := Lib.hid hG
      clear hCb hXb hC hG
      have hsz : (Tryz.prog.info? 73).map (·.size) = some (wcells sy (wlen (Y - X)) (wds (Y - X))).toArray.size := by rw [wcells_len (wds_length _)]; exact info_wide
      have hone : (wcells sy (wlen (Y - X)) (wds (Y - X))).toArray.all (·.oneCell') = true := by
        rw [Array.all_eq_true_iff_forall_mem]; intro v hv; exact wcells_one _ _ _ v (by simpa using hv)
      have HSZ2 := Lib.hid hsz; have HONE2 := Lib.hid hone
      clear hsz hone
      have hzl : (wcells sx (wlen X) (wds X)).toArray.size = (wcells sy (wlen (Y - X)) (wds (Y - X))).toArray.size := by rw [wcells_len (wds_length _), wcells_len (wds_length _)]
      have HZL2 := Lib.hid hzl
      clear hzl
      go_wp2_with (first | (refine wpList_load_row rfl 73 _ rfl w.heap.size rfl 73 (wcells sy (wlen (Y - X)) (wds (Y - X))).toArray (0, 0) _ HCB.out Tryz.underlying73 rfl HSZ2.out ?_) | (refine wpList_store_row rfl 73 _ _ rfl bx (wcells sy (wlen (Y - X)) (wds (Y - X))).toArray rfl rfl 73 _ HXB.out HSZ2.out HZL2.out HONE2.out ?_))
      go_end0
      have hgg : w.grownBy w1 (some bx) := gb_other (g := w.heap.size) (gb_trans (gb_refl w (some bx)) ⟨HG4.out.os, HG4.out.tape, HG4.out.output, HG4.out.size, fun i hi _ => HG4.out.block i hi (by simp)⟩) HG.out (Nat.le_refl _)
      exact ⟨rfl, ⟨HC.out.1, wds_length _, setRow_heap _ _ _ _ _ _ HXB.out⟩, setRow_gb hgg _⟩

/-! ### products -/
theorem zero_list : Tryz.zeroCells73 = (wcells false 0 (List.replicate 232 0)).toArray := by kernel_rfl
theorem zero_cells : Tryz.zeroCells73 = (wcells false 0 (wds 0)).toArray := by
  have : wds 0 = List.replicate 232 0 := by
    have h := words_unique (List.replicate 232 0) (by intro d hd; rw [List.eq_of_mem_replicate hd]; omega)
    rw [wval_zeros, List.length_replicate] at h
    rw [wds_def]; exact h.symm
  rw [this]; exact zero_list
theorem zero_max : 0 < wmax := by rw [wmax_le, wlen_zero]; omega
theorem CW.zero (w : World) : CW (w.alloc (.cells Tryz.zeroCells73 73)) w.heap.size false 0 := by
  refine ⟨zero_max, wds_length 0, (heap_alloc_new w _).trans ?_⟩
  rw [zero_cells, wlen_zero]; rfl
/-- A call that makes a new magnitude. -/
def NewW (w : World) (s : Bool) (m : Nat) (e : Ending) (w' : World) : Prop := ∃ g, e = .returned (.pointer (some ⟨g, 0, none⟩)) ∧ w.heap.size ≤ g ∧ CW w' g s m ∧ Below w.heap.size w w'

theorem times_room {X Y i : Nat} (h : X * Y < wmax) (hi : i < wlen Y) (hX : wlen X ≤ 232) (hY : wlen Y ≤ 232) : wlen X + i ≤ 232 := by
  by_cases h0 : X = 0
  · subst h0; rw [wlen_zero]; omega
  · by_cases h1 : Y = 0
    · subst h1; rw [wlen_zero] at hi; omega
    · have a := wpow_le h0
      have b := wpow_le h1
      have c := Nat.mul_le_mul a b
      rw [← Nat.pow_add] at c
      rw [wmax_le, wlen_le] at h
      rcases Nat.lt_or_ge (wlen X - 1 + (wlen Y - 1)) 232 with h2 | h2
      · omega
      · have : 1000000000 ^ 232 ≤ 1000000000 ^ (wlen X - 1 + (wlen Y - 1)) := Nat.pow_le_pow_right (by omega) h2
        omega
theorem wpre_le {Y i : Nat} (hY : Y < wmax) (hi : i ≤ 232) : wpre Y i ≤ Y := by
  have := wsplit Y i hY hi
  have h2 := wsuf_bd Y i
  have : (0 : Int) ≤ 1000000000 ^ i * wsuf Y i := Int.mul_nonneg (Int.pow_nonneg (by omega)) h2
  omega

set_option maxRecDepth 100000 in
set_option maxHeartbeats 4000000 in
theorem times_c (bx bz : Nat) (sx sy : Bool) (X Y : Nat) (w : World) (hx : CW w bx sx X) (hy : CW w bz sy Y) (hm : X * Y < wmax) :
    Calls Tryz.prog 43 #[.pointer (some ⟨bx, 0, none⟩), .pointer (some ⟨bz, 0, none⟩)] w (NewW w (sx != sy) (X * Y)) := by
  have h0x := hx.2.c0
  have h0y := hy.2.c0
  have h1y := hy.2.c1
  have hxl := hx.lt
  have hyl := hy.lt
  have HX := Lib.hid hx; have HY := Lib.hid hy; have HM := Lib.hid hm
  clear hx hy hm
  go_enter Tryz.func43, Tryz.ntmps43
  go_wp2_with fail
  go_region
  go_wp2_with fail
  obtain ⟨ny, hny⟩ : ∃ ny, wlen Y = ny := ⟨_, rfl⟩
  rw [hny]
  have HNY := Lib.hid hny
  rw [hny] at h1y
  have hnl : ny ≤ 232 := by have := HY.out.wl; omega
  clear hny
  go_loopw [22] (fun si wr => ∃ i : Nat, si = .int .i64 i ∧ i ≤ ny ∧ CW wr w.heap.size (sx != sy) (X * (wpre Y i).toNat) ∧ Below w.heap.size w wr) (fun si _ => ny - (intOf si).toNat)
  case atStart =>
    refine ⟨0, rfl, Nat.zero_le _, ?_, ((Below.refl _ _).alloc (Nat.le_refl _) _).drew⟩
    rw [wpre_zero, show X * Int.toNat 0 = 0 from Nat.mul_zero X]
    have := (CW.zero w)
    refine ⟨this.1, wds_length 0, ?_⟩
    refine (heap_alloc_new w _).trans ?_
    rw [zero_cells, wlen_zero]
    simp [wcells]
    cases sx <;> cases sy <;> rfl
  case round =>
    obtain ⟨i, rfl, hi, hC, hB⟩ := hrel
    by_cases hlt : i < ny
    · have hiy : i < (wds Y).length := by rw [wds_length]; omega
      have hyW := HY.out.later hB hyl
      have hxW := HX.out.later hB hxl
      have hcw := hyW.2.cw hiy
      rw [wat_get hiy] at hcw
      have hyb := wat_bd Y i
      have hps := wpre_succ Y i
      have hpb := wpre_bd Y i (by omega)
      have hple := @wpre_le Y (i + 1) HY.out.1 (by omega)
      obtain ⟨y, hy⟩ : ∃ y, wat Y i = y := ⟨_, rfl⟩
      rw [hy] at hcw hyb hps
      obtain ⟨hy0, hy1⟩ := hyb
      have hnn : 0 ≤ 1000000000 ^ i * y := Int.mul_nonneg (Int.pow_nonneg (by omega)) hy0
      have hT : ((X * (wpre Y i).toNat : Nat) : Int) + y * 1000000000 ^ i * X = ((X * (wpre Y (i + 1)).toNat : Nat) : Int) := by
        rw [Int.natCast_mul, Int.natCast_mul, Int.toNat_of_nonneg hpb.1, Int.toNat_of_nonneg (by omega), hps, Int.mul_add]
        congr 1
        rw [Int.mul_comm y, Int.mul_comm _ (X : Int)]
      have hTm : X * (wpre Y (i + 1)).toNat < wmax := by
        have h1 : X * (wpre Y (i + 1)).toNat ≤ X * Y := Nat.mul_le_mul_left _ (by omega)
        have h2 := HM.out
        omega
      have hroom := times_room HM.out (i := i) (by rw [HNY.out]; exact hlt) HX.out.wl HY.out.wl
      have HT := Lib.hid hT; have HTM := Lib.hid hTm; have HXW := Lib.hid hxW; have HC := Lib.hid hC
      have hi2 : (i : Int) < 232 := by omega
      have hi3 : i < 232 := by omega
      clear hy hps hpb hple hnn hT hTm hxW hyW hC
      go_wp2_with fail
      refine (carry_c w.heap.size bx (sx != sy) sx _ X _ y i wr HC.out HXW.out (by omega) (by omega) hy1 hroom HT.out HTM.out).mono ?_
      rintro e w1 ⟨rfl, hC1, hG1⟩
      have hB1 := hB.trans (gb_below hG1 (Nat.le_refl _) hB.size)
      go_wp2
      go_roundw
      case rel => exact ⟨i + 1, by go_num, by omega, hC1, hB1⟩
      case measure => simp [intOf]; omega
    · obtain rfl : i = ny := by omega
      rw [wpre_all HY.out.1 (by rw [HNY.out]; exact Nat.le_refl _)] at hC
      go_wp2
      go_ret
      exact ⟨w.heap.size, rfl, Nat.le_refl _, hC, hB⟩
end Go.Proofs.Wk
