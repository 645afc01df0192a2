/- SQUARENESS: the reference's zones along, beside and square to a direction. -/
import Derived.Test.YtenoganbeccanaaGreatDoorOE
import Derived.Test.YtenoganbeccanaaGreatDoorNF
import Derived.Test.YtenoganbeccanaaGreatDoorOA
import Derived.Deep.RegionHeld3
namespace Go.Proofs.Wk
open Go.RowKit Mt

abbrev intZ : Value := .int .i64 0
theorem new_int (W : World) (n : Int) (t : TypeId) : ∀ j, j < Row.k Int → (W.alloc (.cells #[.int .i64 n] t)).cell? ⟨W.heap.size, j, none⟩ = (Row.enc n)[j]? := fun j hj => by
  rw [cell_of_row _ _ _ _ _ _ (heap_alloc_new W _)]
  match j, hj with
  | 0, _ => rfl
theorem take_snoc {ls : List St.Pt} {i : Nat} (hi : i < ls.length) (f : St.Pt → Int) : (ls.take (i + 1)).map f = (ls.take i).map f ++ [f (St.at_ ls i)] := by
  rw [List.take_succ_eq_append_getElem hi, List.map_append, ← St.at_get hi]; rfl
theorem take_snocS {ls : List Or.P3} {i : Nat} (hi : i < ls.length) (f : Or.P3 → Int) : (ls.take (i + 1)).map f = (ls.take i).map f ++ [f (Or.at_ ls i)] := by
  rw [List.take_succ_eq_append_getElem hi, List.map_append, ← Or.at_get hi]; rfl
structure LnM (W0 W : World) (gd : Nat) (d : St.Pt) (b o : Nat) (p : St.Pt) : Prop where
  d : PtAt W gd 0 d
  p : PtAt W b o p
  w : Below W0.heap.size W0 W
theorem LnM.drew {W0 W : World} {gd b o : Nat} {d p : St.Pt} (h : LnM W0 W gd d b o p) : LnM W0 W.drew gd d b o p := ⟨h.d.drew, h.p.drew, h.w.drew⟩
theorem LnM.later {W0 W W' : World} {gd b o : Nat} {d p : St.Pt} (h : LnM W0 W gd d b o p) (hb : Below W.heap.size W W') : LnM W0 W' gd d b o p := ⟨h.d.later hb, h.p.later hb, h.w.nx hb⟩
theorem LnM.app {W0 W W' : World} {gd b o : Nat} {d p : St.Pt} (h : LnM W0 W gd d b o p) (h1 : gd < W0.heap.size) (h2 : b < W0.heap.size) (hb : Below W0.heap.size W W') : LnM W0 W' gd d b o p :=
  ⟨⟨(hb.cell (p := ⟨gd, 0, none⟩) h1).trans h.d.c0, (hb.cell (p := ⟨gd, 1, none⟩) h1).trans h.d.c1⟩, ⟨(hb.cell (p := ⟨b, o, none⟩) h2).trans h.p.c0, (hb.cell (p := ⟨b, o + 1, none⟩) h2).trans h.p.c1⟩, h.w.trans hb⟩
theorem LnM.t {W0 W : World} {gd b o : Nat} {dx dy px py : Int} (h : LnM W0 W gd ⟨dx, dy⟩ b o ⟨px, py⟩) : W.cell? ⟨gd, 0, none⟩ = some (.int .i64 dx) ∧ W.cell? ⟨gd, 1, none⟩ = some (.int .i64 dy) ∧
    W.cell? ⟨b, o, none⟩ = some (.int .i64 px) ∧ W.cell? ⟨b, o + 1, none⟩ = some (.int .i64 py) ∧ LnM W0 W gd ⟨dx, dy⟩ b o ⟨px, py⟩ := ⟨h.d.c0, h.d.c1, h.p.c0, h.p.c1, h⟩
structure LnS (W0 W : World) (gd : Nat) (d : Or.P3) (b o : Nat) (p : Or.P3) : Prop where
  d : SpAt W gd 0 d
  p : SpAt W b o p
  w : Below W0.heap.size W0 W
theorem LnS.drew {W0 W : World} {gd b o : Nat} {d p : Or.P3} (h : LnS W0 W gd d b o p) : LnS W0 W.drew gd d b o p := ⟨h.d.drew, h.p.drew, h.w.drew⟩
theorem LnS.later {W0 W W' : World} {gd b o : Nat} {d p : Or.P3} (h : LnS W0 W gd d b o p) (hb : Below W.heap.size W W') : LnS W0 W' gd d b o p := ⟨h.d.later hb, h.p.later hb, h.w.nx hb⟩
theorem LnS.app {W0 W W' : World} {gd b o : Nat} {d p : Or.P3} (h : LnS W0 W gd d b o p) (h1 : gd < W0.heap.size) (h2 : b < W0.heap.size) (hb : Below W0.heap.size W W') : LnS W0 W' gd d b o p :=
  ⟨⟨(hb.cell (p := ⟨gd, 0, none⟩) h1).trans h.d.c0, (hb.cell (p := ⟨gd, 1, none⟩) h1).trans h.d.c1, (hb.cell (p := ⟨gd, 2, none⟩) h1).trans h.d.c2⟩, ⟨(hb.cell (p := ⟨b, o, none⟩) h2).trans h.p.c0, (hb.cell (p := ⟨b, o + 1, none⟩) h2).trans h.p.c1, (hb.cell (p := ⟨b, o + 2, none⟩) h2).trans h.p.c2⟩, h.w.trans hb⟩
theorem LnS.t {W0 W : World} {gd b o : Nat} {dx dy dz px py pz : Int} (h : LnS W0 W gd ⟨dx, dy, dz⟩ b o ⟨px, py, pz⟩) : W.cell? ⟨gd, 0, none⟩ = some (.int .i64 dx) ∧ W.cell? ⟨gd, 1, none⟩ = some (.int .i64 dy) ∧ W.cell? ⟨gd, 2, none⟩ = some (.int .i64 dz) ∧
    W.cell? ⟨b, o, none⟩ = some (.int .i64 px) ∧ W.cell? ⟨b, o + 1, none⟩ = some (.int .i64 py) ∧ W.cell? ⟨b, o + 2, none⟩ = some (.int .i64 pz) ∧ LnS W0 W gd ⟨dx, dy, dz⟩ b o ⟨px, py, pz⟩ := ⟨h.d.c0, h.d.c1, h.d.c2, h.p.c0, h.p.c1, h.p.c2, h⟩
theorem inP_k {p : St.Pt} (h : St.InP p) : (-((100000 : Nat) : Int) ≤ p.x ∧ p.x ≤ ((100000 : Nat) : Int)) ∧ -((100000 : Nat) : Int) ≤ p.y ∧ p.y ≤ ((100000 : Nat) : Int) := by
  obtain ⟨a, b, c, d⟩ := h
  omega
theorem crs_in {a b : St.Pt} (ha : St.InP a) (hb : St.InP b) : -100000000000 ≤ St.crs a b ∧ St.crs a b ≤ 100000000000 := by
  have ha := inP_k ha
  have hb := inP_k hb
  have h1 := St.mul_bd ha.1 hb.2
  have h2 := St.mul_bd ha.2 hb.1
  unfold St.crs; omega
theorem dot_in {a b : St.Pt} (ha : St.InP a) (hb : St.InP b) : -40000000000 ≤ St.dot a b ∧ St.dot a b ≤ 40000000000 := by
  have ha := inP_k ha
  have hb := inP_k hb
  have h1 := St.mul_bd ha.1 hb.1
  have h2 := St.mul_bd ha.2 hb.2
  unfold St.dot; omega
theorem dotS_in {a b : Or.P3} (ha : InS a) (hb : InS b) : -40000000000 ≤ Or.dot a b ∧ Or.dot a b ≤ 40000000000 := by
  have := Bd.dot (Bd.of ha) (Bd.of hb)
  omega
set_option maxRecDepth 100000 in
set_option maxHeartbeats 4000000 in
theorem rLines_c {v : Value} (ls : List St.Pt) (d : St.Pt) (w : World) (S : SlX w v ls) (h0 : 0 < ls.length) (hn : ls.length ≤ 64) (hin : ∀ p ∈ ls, St.InP p) (hd : St.InP d) (hne : d ≠ ⟨0, 0⟩) :
    Calls Tryz.prog 86 #[v, ptV d] w (Ret w (zonV (Or.ends (ls.map (St.crs d))) (St.dot d d))) := by
  refine S.cases _ ?_ ?_
  · rintro a cap rfl rfl
    simp at h0
  rintro b off cap rfl hp hR hb
  have HTN := Lib.hid (fun i (hi : i < ls.length) W => rTurn_c d (St.at_ ls i) 100000 W (inP_k hd) (inP_k (hin _ (St.at_mem hi))) (by decide))
  have HTT := Lib.hid (fun W => rTimes_c d d 100000 W (inP_k hd) (inP_k hd) (by decide))
  have HSN := Lib.hid (fun i (hi : i < ls.length) => take_snoc hi (St.crs d))
  have HRR := Lib.hid (fun (W : World) (h : Below w.heap.size w W) (k : Nat) (hk : k < ls.length) => (hR.later h hb).ptAt hk)
  have HZ := Lib.hid (fun (V : Value) W (S : SlX W V (ls.map (St.crs d))) => rzone_c (ls.map (St.crs d)) (St.dot d d) W S (by rw [List.length_map]; exact h0) (by rw [List.length_map]; omega) (fun n hn => by
    obtain ⟨p, hp, rfl⟩ := List.mem_map.1 hn
    exact crs_in hd (hin p hp)) (by
    have h1 := dot_in hd hd
    have h2 := Or.dot2_pos hne
    omega))
  have HFIN := Lib.hid (show (ls.take ls.length).map (St.crs d) = ls.map (St.crs d) by rw [List.take_length])
  have hA := bx2 w (.cells #[.int .i64 d.x, .int .i64 d.y] 42) (.cells #[.int .i64 0, .int .i64 0] 44)
  have hDm : (((w.alloc (.cells #[.int .i64 d.x, .int .i64 d.y] 42)).alloc (.cells #[.int .i64 0, .int .i64 0] 44))).heap[w.heap.size]? = some (.cells #[.int .i64 d.x, .int .i64 d.y] 42 (0, 0)) := keepD (heap_alloc_new w _) (below_al _ _)
  have hZm := new2 w (.cells #[.int .i64 d.x, .int .i64 d.y] 42) (.cells #[.int .i64 0, .int .i64 0] 44)
  have HSZ := Lib.hid (show w.heap.size + 1 < (((w.alloc (.cells #[.int .i64 d.x, .int .i64 d.y] 42)).alloc (.cells #[.int .i64 0, .int .i64 0] 44))).heap.size by rw [World.size_alloc, World.size_alloc]; omega)
  have HBL := Lib.hid hb
  generalize St.dot d d = D at *
  generalize ls.map (St.crs d) = L at *
  generalize Or.ends L = E at *
  obtain ⟨R, hRR⟩ : ∃ R, R = rtoa (Rat.divInt ((E.high - E.low) * (E.high - E.low)) D) := ⟨_, rfl⟩
  unfold zonV at HZ ⊢
  rw [← hRR] at HZ ⊢
  clear hRR
  generalize hF : St.crs d = F at *
  obtain ⟨dx, dy⟩ := d
  simp only at hA hDm hZm HSZ HTT
  clear hin hd hne hR S hF
  go_enter Tryz.func86, Tryz.ntmps86
  go_wp2_with fail
  generalize (w.alloc (.cells #[.int .i64 dx, .int .i64 dy] 42)).alloc (.cells #[.int .i64 0, .int .i64 0] 44) = W0 at *
  have HDA := Lib.hid (show PtAt W0 w.heap.size 0 ⟨dx, dy⟩ from ⟨(by rw [cell_of_row _ _ _ _ _ _ hDm]; rfl), (by rw [cell_of_row _ _ _ _ _ _ hDm]; rfl)⟩)
  have HZM := Lib.hid hZm
  clear hDm hZm
  go_loopw [6, 7] (fun sv si wr => ∃ i : Nat, si = .int .i64 (i : Int) ∧ i ≤ ls.length ∧ Hid (OwX 3 wr W0.heap.size sv ((ls.take i).map F)) ∧ Hid (Below W0.heap.size W0 wr)) (fun _ si _ => ls.length - (intOf si).toNat)
  case atStart => exact ⟨0, rfl, Nat.zero_le _, OwX.nil _ _ _, Below.refl _ _⟩
  case round =>
    obtain ⟨i, rfl, hi, hO, hB⟩ := hrel
    by_cases hlt : i < ls.length
    · have HM : LnM W0 wr w.heap.size ⟨dx, dy⟩ b (off + i * 2) (St.at_ ls i) := ⟨HDA.out.later hB.out, HRR.out _ (hA.nx hB.out) i hlt, hB.out⟩
      have HT := Lib.hid (HTN.out i hlt)
      have HSS := Lib.hid (HSN.out i hlt)
      generalize St.at_ ls i = p at *
      generalize F p = n at *
      obtain ⟨px, py⟩ := p
      obtain ⟨d0, d1, p0, p1, -⟩ := HM.t
      have HM := Lib.hid HM
      have hb0 : w.heap.size < W0.heap.size := by have := HSZ.out; omega
      have hb1 : b < W0.heap.size := by have := HSZ.out; have := HBL.out; omega
      have HL1 := Lib.hid (show ((ls.take i).map F).length + 1 ≤ 1000 by rw [List.length_map, List.length_take]; omega)
      have HB0 := Lib.hid hb0
      have HB1 := Lib.hid hb1
      clear hb0 hb1
      go_wp2_with fail
      go_region_held3 (fun w' => w'.cell? ⟨w.heap.size, 0, none⟩ = some (.int .i64 dx) ∧ w'.cell? ⟨w.heap.size, 1, none⟩ = some (.int .i64 dy) ∧ w'.cell? ⟨b, off + i * 2, none⟩ = some (.int .i64 px) ∧ w'.cell? ⟨b, off + i * 2 + 1, none⟩ = some (.int .i64 py) ∧ LnM W0 w' w.heap.size ⟨dx, dy⟩ b (off + i * 2) ⟨px, py⟩)
        (first | exact J3.t | exact J2.t | exact J1.t | exact HM.out.t | exact HM.out.drew.t)
        (first
          | (go_at_call 140; (with_reducible refine (HT.out _).mono ?_); rintro e w2 ⟨rfl, hb2⟩; (first | (have J1 := HM.out.drew.later hb2; have O1 := (hO.out.later (Below.refl _ wr).drew).later hb2) | (have J1 := HM.out.later hb2; have O1 := hO.out.later hb2)); have J2 := J1.later (below_al w2 (.cells #[.int .i64 n] 3)); have HO2 := Lib.hid (O1.later (below_al w2 (.cells #[.int .i64 n] 3))); have HS2 := Lib.hid J2.w.size; clear O1)
          | (refine step_app_row _ (by rfl) _ _ 149 3 (by rfl) Tryz.underlying149 intZ 8 (by decide) (by kernel_rfl) rfl W0.heap.size _ ((ls.take i).map F) (by rfl) HO2.out w2.heap.size (n : Int) (by rfl) (new_int w2 n 3) (by have := HL1.out; omega) HS2.out ?_; intro gg cap w1 hO1 hb3; have J3 := J2.app HB0.out HB1.out hb3; have HO1 := Lib.hid hO1; clear hO1)
          | fail)
      all_goals
        have HO3 := Lib.hid HO1.out
        rw [show ((ls.take i).map F).length = i by rw [List.length_map, List.length_take]; omega, ← HSS.out] at HO3
        have HJ := Lib.hid J3
        clear J1 J2 J3 HO1 HO2 HS2 hb2 hb3 HM hO hB
        go_wp2
        go_roundw
        case rel => exact ⟨i + 1, by go_num, by omega, HO3.out, HJ.out.w⟩
        case measure => simp [intOf]; omega
    · obtain rfl : i = ls.length := by omega
      have HO := Lib.hid hO.out
      rw [HFIN.out] at HO
      obtain ⟨t0, t1⟩ := HDA.out.later hB.out
      have HZ1 := Lib.hid (keepD HZM.out hB.out)
      have HBW := Lib.hid (hA.nx hB.out)
      simp only [Nat.zero_add] at t1
      clear hO hB HRR HTN HSN
      go_wp2_with fail
      ((with_reducible refine (HTT.out _).mono ?_); rintro e w2 ⟨rfl, hb2⟩)
      have HO2 := Lib.hid (HO.out.later hb2)
      go_wp2_with fail
      ((with_reducible refine (HZ.out _ _ HO2.out.sl).mono ?_); rintro e w3 ⟨rfl, hb3⟩)
      have hZ3 := keepD (keepD HZ1.out hb2) hb3
      have hB3 := (HBW.out.nx hb2).nx hb3
      obtain ⟨z0, z1⟩ := c2row hZ3
      have hf := fun k => free_row hZ3 k
      clear hb2 hb3 HO2 HO
      go_wp2
      refine bodyPost_ret (res_tc rfl (by kernel_rfl) (s2row hZ3) Tryz.underlying44 rfl (by kernel_rfl) rfl) rfl ?_
      exact ⟨rfl, b2row hB3 (Nat.le_succ _)⟩
set_option maxRecDepth 100000 in
set_option maxHeartbeats 4000000 in
theorem rBeams_c {v : Value} (ls : List St.Pt) (d : St.Pt) (w : World) (S : SlX w v ls) (h0 : 0 < ls.length) (hn : ls.length ≤ 64) (hin : ∀ p ∈ ls, St.InP p) (hd : St.InP d) (hne : d ≠ ⟨0, 0⟩) :
    Calls Tryz.prog 88 #[v, ptV d] w (Ret w (zonV (Or.ends (ls.map (St.dot d))) (St.dot d d))) := by
  refine S.cases _ ?_ ?_
  · rintro a cap rfl rfl
    simp at h0
  rintro b off cap rfl hp hR hb
  have HTN := Lib.hid (fun i (hi : i < ls.length) W => rTimes_c d (St.at_ ls i) 100000 W (inP_k hd) (inP_k (hin _ (St.at_mem hi))) (by decide))
  have HTT := Lib.hid (fun W => rTimes_c d d 100000 W (inP_k hd) (inP_k hd) (by decide))
  have HSN := Lib.hid (fun i (hi : i < ls.length) => take_snoc hi (St.dot d))
  have HRR := Lib.hid (fun (W : World) (h : Below w.heap.size w W) (k : Nat) (hk : k < ls.length) => (hR.later h hb).ptAt hk)
  have HZ := Lib.hid (fun (V : Value) W (S : SlX W V (ls.map (St.dot d))) => rzone_c (ls.map (St.dot d)) (St.dot d d) W S (by rw [List.length_map]; exact h0) (by rw [List.length_map]; omega) (fun n hn => by
    obtain ⟨p, hp, rfl⟩ := List.mem_map.1 hn
    exact (by have := dot_in hd (hin p hp); omega)) (by
    have h1 := dot_in hd hd
    have h2 := Or.dot2_pos hne
    omega))
  have HFIN := Lib.hid (show (ls.take ls.length).map (St.dot d) = ls.map (St.dot d) by rw [List.take_length])
  have hA := bx2 w (.cells #[.int .i64 d.x, .int .i64 d.y] 42) (.cells #[.int .i64 0, .int .i64 0] 44)
  have hDm : (((w.alloc (.cells #[.int .i64 d.x, .int .i64 d.y] 42)).alloc (.cells #[.int .i64 0, .int .i64 0] 44))).heap[w.heap.size]? = some (.cells #[.int .i64 d.x, .int .i64 d.y] 42 (0, 0)) := keepD (heap_alloc_new w _) (below_al _ _)
  have hZm := new2 w (.cells #[.int .i64 d.x, .int .i64 d.y] 42) (.cells #[.int .i64 0, .int .i64 0] 44)
  have HSZ := Lib.hid (show w.heap.size + 1 < (((w.alloc (.cells #[.int .i64 d.x, .int .i64 d.y] 42)).alloc (.cells #[.int .i64 0, .int .i64 0] 44))).heap.size by rw [World.size_alloc, World.size_alloc]; omega)
  have HBL := Lib.hid hb
  generalize St.dot d d = D at *
  generalize ls.map (St.dot d) = L at *
  generalize Or.ends L = E at *
  obtain ⟨R, hRR⟩ : ∃ R, R = rtoa (Rat.divInt ((E.high - E.low) * (E.high - E.low)) D) := ⟨_, rfl⟩
  unfold zonV at HZ ⊢
  rw [← hRR] at HZ ⊢
  clear hRR
  generalize hF : St.dot d = F at *
  obtain ⟨dx, dy⟩ := d
  simp only at hA hDm hZm HSZ HTT
  clear hin hd hne hR S hF
  go_enter Tryz.func88, Tryz.ntmps88
  go_wp2_with fail
  generalize (w.alloc (.cells #[.int .i64 dx, .int .i64 dy] 42)).alloc (.cells #[.int .i64 0, .int .i64 0] 44) = W0 at *
  have HDA := Lib.hid (show PtAt W0 w.heap.size 0 ⟨dx, dy⟩ from ⟨(by rw [cell_of_row _ _ _ _ _ _ hDm]; rfl), (by rw [cell_of_row _ _ _ _ _ _ hDm]; rfl)⟩)
  have HZM := Lib.hid hZm
  clear hDm hZm
  go_loopw [6, 7] (fun sv si wr => ∃ i : Nat, si = .int .i64 (i : Int) ∧ i ≤ ls.length ∧ Hid (OwX 3 wr W0.heap.size sv ((ls.take i).map F)) ∧ Hid (Below W0.heap.size W0 wr)) (fun _ si _ => ls.length - (intOf si).toNat)
  case atStart => exact ⟨0, rfl, Nat.zero_le _, OwX.nil _ _ _, Below.refl _ _⟩
  case round =>
    obtain ⟨i, rfl, hi, hO, hB⟩ := hrel
    by_cases hlt : i < ls.length
    · have HM : LnM W0 wr w.heap.size ⟨dx, dy⟩ b (off + i * 2) (St.at_ ls i) := ⟨HDA.out.later hB.out, HRR.out _ (hA.nx hB.out) i hlt, hB.out⟩
      have HT := Lib.hid (HTN.out i hlt)
      have HSS := Lib.hid (HSN.out i hlt)
      generalize St.at_ ls i = p at *
      generalize F p = n at *
      obtain ⟨px, py⟩ := p
      obtain ⟨d0, d1, p0, p1, -⟩ := HM.t
      have HM := Lib.hid HM
      have hb0 : w.heap.size < W0.heap.size := by have := HSZ.out; omega
      have hb1 : b < W0.heap.size := by have := HSZ.out; have := HBL.out; omega
      have HL1 := Lib.hid (show ((ls.take i).map F).length + 1 ≤ 1000 by rw [List.length_map, List.length_take]; omega)
      have HB0 := Lib.hid hb0
      have HB1 := Lib.hid hb1
      clear hb0 hb1
      go_wp2_with fail
      go_region_held3 (fun w' => w'.cell? ⟨w.heap.size, 0, none⟩ = some (.int .i64 dx) ∧ w'.cell? ⟨w.heap.size, 1, none⟩ = some (.int .i64 dy) ∧ w'.cell? ⟨b, off + i * 2, none⟩ = some (.int .i64 px) ∧ w'.cell? ⟨b, off + i * 2 + 1, none⟩ = some (.int .i64 py) ∧ LnM W0 w' w.heap.size ⟨dx, dy⟩ b (off + i * 2) ⟨px, py⟩)
        (first | exact J3.t | exact J2.t | exact J1.t | exact HM.out.t | exact HM.out.drew.t)
        (first
          | (go_at_call 103; (with_reducible refine (HT.out _).mono ?_); rintro e w2 ⟨rfl, hb2⟩; (first | (have J1 := HM.out.drew.later hb2; have O1 := (hO.out.later (Below.refl _ wr).drew).later hb2) | (have J1 := HM.out.later hb2; have O1 := hO.out.later hb2)); have J2 := J1.later (below_al w2 (.cells #[.int .i64 n] 3)); have HO2 := Lib.hid (O1.later (below_al w2 (.cells #[.int .i64 n] 3))); have HS2 := Lib.hid J2.w.size; clear O1)
          | (refine step_app_row _ (by rfl) _ _ 149 3 (by rfl) Tryz.underlying149 intZ 8 (by decide) (by kernel_rfl) rfl W0.heap.size _ ((ls.take i).map F) (by rfl) HO2.out w2.heap.size (n : Int) (by rfl) (new_int w2 n 3) (by have := HL1.out; omega) HS2.out ?_; intro gg cap w1 hO1 hb3; have J3 := J2.app HB0.out HB1.out hb3; have HO1 := Lib.hid hO1; clear hO1)
          | fail)
      all_goals
        have HO3 := Lib.hid HO1.out
        rw [show ((ls.take i).map F).length = i by rw [List.length_map, List.length_take]; omega, ← HSS.out] at HO3
        have HJ := Lib.hid J3
        clear J1 J2 J3 HO1 HO2 HS2 hb2 hb3 HM hO hB
        go_wp2
        go_roundw
        case rel => exact ⟨i + 1, by go_num, by omega, HO3.out, HJ.out.w⟩
        case measure => simp [intOf]; omega
    · obtain rfl : i = ls.length := by omega
      have HO := Lib.hid hO.out
      rw [HFIN.out] at HO
      obtain ⟨t0, t1⟩ := HDA.out.later hB.out
      have HZ1 := Lib.hid (keepD HZM.out hB.out)
      have HBW := Lib.hid (hA.nx hB.out)
      simp only [Nat.zero_add] at t1
      clear hO hB HRR HTN HSN
      go_wp2_with fail
      ((with_reducible refine (HTT.out _).mono ?_); rintro e w2 ⟨rfl, hb2⟩)
      have HO2 := Lib.hid (HO.out.later hb2)
      go_wp2_with fail
      ((with_reducible refine (HZ.out _ _ HO2.out.sl).mono ?_); rintro e w3 ⟨rfl, hb3⟩)
      have hZ3 := keepD (keepD HZ1.out hb2) hb3
      have hB3 := (HBW.out.nx hb2).nx hb3
      obtain ⟨z0, z1⟩ := c2row hZ3
      have hf := fun k => free_row hZ3 k
      clear hb2 hb3 HO2 HO
      go_wp2
      refine bodyPost_ret (res_tc rfl (by kernel_rfl) (s2row hZ3) Tryz.underlying44 rfl (by kernel_rfl) rfl) rfl ?_
      exact ⟨rfl, b2row hB3 (Nat.le_succ _)⟩
set_option maxRecDepth 100000 in
set_option maxHeartbeats 4000000 in
theorem rPlanes_c {v : Value} (ls : List Or.P3) (d : Or.P3) (w : World) (S : SlX w v ls) (h0 : 0 < ls.length) (hn : ls.length ≤ 64) (hin : ∀ p ∈ ls, InS p) (hd : InS d) (hne : d ≠ ⟨0, 0, 0⟩) :
    Calls Tryz.prog 94 #[v, spV d] w (Ret w (zonV (Or.ends (ls.map (Or.dot d))) (Or.dot d d))) := by
  refine S.cases _ ?_ ?_
  · rintro a cap rfl rfl
    simp at h0
  rintro b off cap rfl hp hR hb
  have HTN := Lib.hid (fun i (hi : i < ls.length) W => rDotS_c d (Or.at_ ls i) 100000 100000 W (Bd.of hd) (Bd.of (hin _ (Or.at_mem hi))) (by decide))
  have HTT := Lib.hid (fun W => rDotS_c d d 100000 100000 W (Bd.of hd) (Bd.of hd) (by decide))
  have HSN := Lib.hid (fun i (hi : i < ls.length) => take_snocS hi (Or.dot d))
  have HRR := Lib.hid (fun (W : World) (h : Below w.heap.size w W) (k : Nat) (hk : k < ls.length) => (hR.later h hb).spAt hk)
  have HZ := Lib.hid (fun (V : Value) W (S : SlX W V (ls.map (Or.dot d))) => rzone_c (ls.map (Or.dot d)) (Or.dot d d) W S (by rw [List.length_map]; exact h0) (by rw [List.length_map]; omega) (fun n hn => by
    obtain ⟨p, hp, rfl⟩ := List.mem_map.1 hn
    exact (by have := dotS_in hd (hin p hp); omega)) (by
    have h1 := dotS_in hd hd
    have h2 := Or.dot_pos hne
    omega))
  have HFIN := Lib.hid (show (ls.take ls.length).map (Or.dot d) = ls.map (Or.dot d) by rw [List.take_length])
  have hA := bx2 w (.cells #[.int .i64 d.x, .int .i64 d.y, .int .i64 d.z] 52) (.cells #[.int .i64 0, .int .i64 0] 44)
  have hDm : (((w.alloc (.cells #[.int .i64 d.x, .int .i64 d.y, .int .i64 d.z] 52)).alloc (.cells #[.int .i64 0, .int .i64 0] 44))).heap[w.heap.size]? = some (.cells #[.int .i64 d.x, .int .i64 d.y, .int .i64 d.z] 52 (0, 0)) := keepD (heap_alloc_new w _) (below_al _ _)
  have hZm := new2 w (.cells #[.int .i64 d.x, .int .i64 d.y, .int .i64 d.z] 52) (.cells #[.int .i64 0, .int .i64 0] 44)
  have HSZ := Lib.hid (show w.heap.size + 1 < (((w.alloc (.cells #[.int .i64 d.x, .int .i64 d.y, .int .i64 d.z] 52)).alloc (.cells #[.int .i64 0, .int .i64 0] 44))).heap.size by rw [World.size_alloc, World.size_alloc]; omega)
  have HBL := Lib.hid hb
  generalize Or.dot d d = D at *
  generalize ls.map (Or.dot d) = L at *
  generalize Or.ends L = E at *
  obtain ⟨R, hRR⟩ : ∃ R, R = rtoa (Rat.divInt ((E.high - E.low) * (E.high - E.low)) D) := ⟨_, rfl⟩
  unfold zonV at HZ ⊢
  rw [← hRR] at HZ ⊢
  clear hRR
  generalize hF : Or.dot d = F at *
  obtain ⟨dx, dy, dz⟩ := d
  simp only at hA hDm hZm HSZ HTT
  clear hin hd hne hR S hF
  go_enter Tryz.func94, Tryz.ntmps94
  go_wp2_with fail
  generalize (w.alloc (.cells #[.int .i64 dx, .int .i64 dy, .int .i64 dz] 52)).alloc (.cells #[.int .i64 0, .int .i64 0] 44) = W0 at *
  have HDA := Lib.hid (show SpAt W0 w.heap.size 0 ⟨dx, dy, dz⟩ from ⟨(by rw [cell_of_row _ _ _ _ _ _ hDm]; rfl), (by rw [cell_of_row _ _ _ _ _ _ hDm]; rfl), (by rw [cell_of_row _ _ _ _ _ _ hDm]; rfl)⟩)
  have HZM := Lib.hid hZm
  clear hDm hZm
  go_loopw [6, 7] (fun sv si wr => ∃ i : Nat, si = .int .i64 (i : Int) ∧ i ≤ ls.length ∧ Hid (OwX 3 wr W0.heap.size sv ((ls.take i).map F)) ∧ Hid (Below W0.heap.size W0 wr)) (fun _ si _ => ls.length - (intOf si).toNat)
  case atStart => exact ⟨0, rfl, Nat.zero_le _, OwX.nil _ _ _, Below.refl _ _⟩
  case round =>
    obtain ⟨i, rfl, hi, hO, hB⟩ := hrel
    by_cases hlt : i < ls.length
    · have HM : LnS W0 wr w.heap.size ⟨dx, dy, dz⟩ b (off + i * 3) (Or.at_ ls i) := ⟨HDA.out.later hB.out, HRR.out _ (hA.nx hB.out) i hlt, hB.out⟩
      have HT := Lib.hid (HTN.out i hlt)
      have HSS := Lib.hid (HSN.out i hlt)
      generalize Or.at_ ls i = p at *
      generalize F p = n at *
      obtain ⟨px, py, pz⟩ := p
      obtain ⟨d0, d1, d2, p0, p1, p2, -⟩ := HM.t
      have HM := Lib.hid HM
      have hb0 : w.heap.size < W0.heap.size := by have := HSZ.out; omega
      have hb1 : b < W0.heap.size := by have := HSZ.out; have := HBL.out; omega
      have HL1 := Lib.hid (show ((ls.take i).map F).length + 1 ≤ 1000 by rw [List.length_map, List.length_take]; omega)
      have HB0 := Lib.hid hb0
      have HB1 := Lib.hid hb1
      clear hb0 hb1
      go_wp2_with fail
      go_region_held3 (fun w' => w'.cell? ⟨w.heap.size, 0, none⟩ = some (.int .i64 dx) ∧ w'.cell? ⟨w.heap.size, 1, none⟩ = some (.int .i64 dy) ∧ w'.cell? ⟨w.heap.size, 2, none⟩ = some (.int .i64 dz) ∧ w'.cell? ⟨b, off + i * 3, none⟩ = some (.int .i64 px) ∧ w'.cell? ⟨b, off + i * 3 + 1, none⟩ = some (.int .i64 py) ∧ w'.cell? ⟨b, off + i * 3 + 2, none⟩ = some (.int .i64 pz) ∧ LnS W0 w' w.heap.size ⟨dx, dy, dz⟩ b (off + i * 3) ⟨px, py, pz⟩)
        (first | exact J3.t | exact J2.t | exact J1.t | exact HM.out.t | exact HM.out.drew.t)
        (first
          | (go_at_call 143; (with_reducible refine (HT.out _).mono ?_); rintro e w2 ⟨rfl, hb2⟩; (first | (have J1 := HM.out.drew.later hb2; have O1 := (hO.out.later (Below.refl _ wr).drew).later hb2) | (have J1 := HM.out.later hb2; have O1 := hO.out.later hb2)); have J2 := J1.later (below_al w2 (.cells #[.int .i64 n] 3)); have HO2 := Lib.hid (O1.later (below_al w2 (.cells #[.int .i64 n] 3))); have HS2 := Lib.hid J2.w.size; clear O1)
          | (refine step_app_row _ (by rfl) _ _ 149 3 (by rfl) Tryz.underlying149 intZ 8 (by decide) (by kernel_rfl) rfl W0.heap.size _ ((ls.take i).map F) (by rfl) HO2.out w2.heap.size (n : Int) (by rfl) (new_int w2 n 3) (by have := HL1.out; omega) HS2.out ?_; intro gg cap w1 hO1 hb3; have J3 := J2.app HB0.out HB1.out hb3; have HO1 := Lib.hid hO1; clear hO1)
          | fail)
      all_goals
        have HO3 := Lib.hid HO1.out
        rw [show ((ls.take i).map F).length = i by rw [List.length_map, List.length_take]; omega, ← HSS.out] at HO3
        have HJ := Lib.hid J3
        clear J1 J2 J3 HO1 HO2 HS2 hb2 hb3 HM hO hB
        go_wp2
        go_roundw
        case rel => exact ⟨i + 1, by go_num, by omega, HO3.out, HJ.out.w⟩
        case measure => simp [intOf]; omega
    · obtain rfl : i = ls.length := by omega
      have HO := Lib.hid hO.out
      rw [HFIN.out] at HO
      obtain ⟨t0, t1, t2⟩ := HDA.out.later hB.out
      have HZ1 := Lib.hid (keepD HZM.out hB.out)
      have HBW := Lib.hid (hA.nx hB.out)
      simp only [Nat.zero_add] at t1 t2
      clear hO hB HRR HTN HSN
      go_wp2_with fail
      ((with_reducible refine (HTT.out _).mono ?_); rintro e w2 ⟨rfl, hb2⟩)
      have HO2 := Lib.hid (HO.out.later hb2)
      go_wp2_with fail
      ((with_reducible refine (HZ.out _ _ HO2.out.sl).mono ?_); rintro e w3 ⟨rfl, hb3⟩)
      have hZ3 := keepD (keepD HZ1.out hb2) hb3
      have hB3 := (HBW.out.nx hb2).nx hb3
      obtain ⟨z0, z1⟩ := c2row hZ3
      have hf := fun k => free_row hZ3 k
      clear hb2 hb3 HO2 HO
      go_wp2
      refine bodyPost_ret (res_tc rfl (by kernel_rfl) (s2row hZ3) Tryz.underlying44 rfl (by kernel_rfl) rfl) rfl ?_
      exact ⟨rfl, b2row hB3 (Nat.le_succ _)⟩
end Go.Proofs.Wk
/- SQUARENESS: zones in the plane, in the program. -/
namespace Go.Proofs.Wk
open Go.RowKit Mt

/-- What a function of zones returns. -/
def resZ (E : Int) (e : Or.Ed) (D : Int) : Value := if E = 0 then .tuple #[.string ⟨(rtoa (Rat.divInt ((e.high - e.low) * (e.high - e.low)) D)).toArray⟩, .agg #[.int .i64 (e.a0 : Int), .int .i64 (e.a1 : Int)], .int .i64 0]
  else .tuple #[.string ⟨#[]⟩, .agg #[.int .i64 0, .int .i64 0], .int .i64 E]
abbrev alongV (ls : List St.Pt) (d : St.Pt) : Value := resZ (flatE ls d) (Or.ends (ls.map (St.crs d))) (St.dot d d)
abbrev besideV (ls : List St.Pt) (d : St.Pt) : Value := resZ (flatE ls d) (Or.ends (ls.map (St.dot d))) (St.dot d d)
abbrev parallelV (ls : List Or.P3) (d : Or.P3) : Value := resZ (highE ls d) (Or.ends (ls.map (Or.dot d))) (Or.dot d d)
theorem dot_flat (d : St.Pt) : Or.dot ⟨d.x, d.y, 0⟩ ⟨d.x, d.y, 0⟩ = St.dot d d := by unfold Or.dot St.dot; simp
/-- What the closure of a zone reads. -/
structure ArM (W : World) (gz gd gs : Nat) (fv sv : Value) (d : St.Pt) (b o : Nat) (p : St.Pt) : Prop where
  z : W.heap[gz]? = some (.cells #[fv] 118 (0, 0))
  s : W.heap[gs]? = some (.cells #[sv] 40 (0, 0))
  d : PtAt W gd 0 d
  p : PtAt W b o p
theorem ArM.drew {W : World} {gz gd gs b o : Nat} {fv sv : Value} {d p : St.Pt} (h : ArM W gz gd gs fv sv d b o p) : ArM W.drew gz gd gs fv sv d b o p := ⟨h.z, h.s, h.d.drew, h.p.drew⟩
theorem ArM.later {W W' : World} {gz gd gs b o : Nat} {fv sv : Value} {d p : St.Pt} (h : ArM W gz gd gs fv sv d b o p) (hb : Below W.heap.size W W') : ArM W' gz gd gs fv sv d b o p := ⟨keepD h.z hb, keepD h.s hb, h.d.later hb, h.p.later hb⟩
theorem ArM.t {W : World} {gz gd gs b o : Nat} {fv sv : Value} {dx dy px py : Int} (h : ArM W gz gd gs fv sv ⟨dx, dy⟩ b o ⟨px, py⟩) : W.cell? ⟨gz, 0, none⟩ = some fv ∧ W.cell? ⟨gs, 0, none⟩ = some sv ∧
    W.cell? ⟨gd, 0, none⟩ = some (.int .i64 dx) ∧ W.cell? ⟨gd, 1, none⟩ = some (.int .i64 dy) ∧ W.cell? ⟨b, o, none⟩ = some (.int .i64 px) ∧ W.cell? ⟨b, o + 1, none⟩ = some (.int .i64 py) ∧ ArM W gz gd gs fv sv ⟨dx, dy⟩ b o ⟨px, py⟩ :=
  ⟨c1row h.z, c1row h.s, h.d.c0, h.d.c1, h.p.c0, h.p.c1, h⟩
/-- The boxes of a zone's arguments. -/
structure ZnM (w W : World) (fv sv : Value) (d : St.Pt) : Prop where
  z : W.heap[w.heap.size]? = some (.cells #[fv] 118 (0, 0))
  s : W.heap[w.heap.size + 1]? = some (.cells #[sv] 40 (0, 0))
  d : W.heap[w.heap.size + 1 + 1]? = some (.cells #[.int .i64 d.x, .int .i64 d.y] 42 (0, 0))
  r : W.heap[w.heap.size + 1 + 1 + 1]? = some (.cells #[.int .i64 0, .int .i64 0] 44 (0, 0))
  w : Below w.heap.size w W
theorem ZnM.later {w W W' : World} {fv sv : Value} {d : St.Pt} (h : ZnM w W fv sv d) (hb : Below W.heap.size W W') : ZnM w W' fv sv d := ⟨keepD h.z hb, keepD h.s hb, keepD h.d hb, keepD h.r hb, h.w.nx hb⟩
theorem al4 (w : World) (o1 o2 o3 o4 : Obj) : ((((w.alloc o1).alloc o2).alloc o3).alloc o4).heap[w.heap.size]? = some o1 ∧ ((((w.alloc o1).alloc o2).alloc o3).alloc o4).heap[w.heap.size + 1]? = some o2 ∧
    ((((w.alloc o1).alloc o2).alloc o3).alloc o4).heap[w.heap.size + 1 + 1]? = some o3 ∧ ((((w.alloc o1).alloc o2).alloc o3).alloc o4).heap[w.heap.size + 1 + 1 + 1]? = some o4 ∧ Below w.heap.size w ((((w.alloc o1).alloc o2).alloc o3).alloc o4) := by
  have h4 := heap_alloc_new (((w.alloc o1).alloc o2).alloc o3) o4
  rw [World.size_alloc, World.size_alloc, World.size_alloc] at h4
  exact ⟨keepD (keepD (keepD (heap_alloc_new w o1) (below_al _ _)) (below_al _ _)) (below_al _ _), keepD (keepD (new2 w o1 o2) (below_al _ _)) (below_al _ _), keepD (new3 w o1 o2 o3) (below_al _ _), h4, (bx3 w o1 o2 o3).nx (below_al _ _)⟩
theorem znM_new (w : World) (fv sv : Value) (d : St.Pt) : ZnM w ((((w.alloc (.cells #[fv] 118)).alloc (.cells #[sv] 40)).alloc (.cells #[.int .i64 d.x, .int .i64 d.y] 42)).alloc (.cells #[.int .i64 0, .int .i64 0] 44)) fv sv d := by
  obtain ⟨h1, h2, h3, h4, h5⟩ := al4 w (.cells #[fv] 118) (.cells #[sv] 40) (.cells #[.int .i64 d.x, .int .i64 d.y] 42) (.cells #[.int .i64 0, .int .i64 0] 44)
  exact ⟨h1, h2, h3, h4, h5⟩
set_option maxRecDepth 100000 in
set_option maxHeartbeats 2000000 in
theorem aroundA_f (gz gd gs b off n i : Nat) (cap : Nat) (d p : St.Pt) (W : World) (hi : i < n) (hd : St.InP d) (hp : St.InP p) (hM : ArM W gz gd gs (.func (.func 84) #[] #[]) (.slice (some ⟨b, off, none⟩) n cap) d b (off + i * 2) p) :
    Calls Tryz.prog 139 #[.int .i64 (i : Int), .pointer (some ⟨gz, 0, none⟩), .pointer (some ⟨gd, 0, none⟩), .pointer (some ⟨gs, 0, none⟩)] W (Ret W (.int .i64 (St.crs d p))) := by
  have HF := Lib.hid (fun W => along_f d p 100000 W (inP_k hd) (inP_k hp) (by decide))
  generalize St.crs d p = R at *
  obtain ⟨dx, dy⟩ := d
  obtain ⟨px, py⟩ := p
  have i0 : (0 : Int) ≤ (i : Int) := by omega
  have i1 : (i : Int) < (n : Int) := by omega
  have HM := Lib.hid hM
  obtain ⟨m0, m1, m2, m3, m4, m5, -⟩ := hM.t
  have HB := Lib.hid (Below.refl W.heap.size W)
  clear hd hp hM
  go_enter Tryz.func139, Tryz.ntmps139
  go_wp2_with fail
  go_region_held3 (fun w' => w'.cell? ⟨gz, 0, none⟩ = some (.func (.func 84) #[] #[]) ∧ w'.cell? ⟨gs, 0, none⟩ = some (.slice (some ⟨b, off, none⟩) n cap) ∧
      w'.cell? ⟨gd, 0, none⟩ = some (.int .i64 dx) ∧ w'.cell? ⟨gd, 1, none⟩ = some (.int .i64 dy) ∧ w'.cell? ⟨b, off + i * 2, none⟩ = some (.int .i64 px) ∧ w'.cell? ⟨b, off + i * 2 + 1, none⟩ = some (.int .i64 py) ∧ ArM w' gz gd gs (.func (.func 84) #[] #[]) (.slice (some ⟨b, off, none⟩) n cap) ⟨dx, dy⟩ b (off + i * 2) ⟨px, py⟩)
    (first | exact JJ.t | exact HM.out.t | exact HM.out.drew.t)
    (first
      | (go_at_call 84; (with_reducible refine (HF.out _).mono ?_); rintro e w4 ⟨rfl, hb4⟩; (first | (have JJ := HM.out.drew.later hb4; have BB := HB.out.drew.nx hb4) | (have JJ := HM.out.later hb4; have BB := HB.out.nx hb4)))
      | fail)
  all_goals
    go_wp2
    go_ret
    exact ⟨rfl, BB⟩
set_option maxRecDepth 100000 in
set_option maxHeartbeats 4000000 in
theorem aroundA_c {v : Value} (ls : List St.Pt) (d : St.Pt) (w : World) (hg : Good w) (S : SlX w v ls) (hln : ls.length ≤ 140737488355328) :
    Calls Tryz.prog 85 #[.agg #[.func (.func 84) #[] #[]], v, ptV d] w (Ret w (alongV ls d)) := by
  have HFL := Lib.hid (fun W (h : Below w.heap.size w W) => oflat_c ls d W (S.later h) hln)
  have hz := znM_new w (.func (.func 84) #[] #[]) v d
  have HS := Lib.hid (fun W (h : Below w.heap.size w W) => S.later h)
  by_cases h0 : flatE ls d = 0
  · obtain ⟨l0, l64, hin, hd, hne⟩ := flatE_ok h0
    rw [h0] at HFL
    unfold alongV resZ
    rw [if_pos h0]
    refine S.cases _ ?_ ?_
    · rintro a cap rfl rfl
      simp at l0
    rintro b off cap rfl hp hR hb
    have HRR := Lib.hid (fun (W : World) (h : Below w.heap.size w W) (k : Nat) (hk : k < ls.length) => (hR.later h hb).ptAt hk)
    have HEN := Lib.hid (fun W (hM : ZnM w W (.func (.func 84) #[] #[]) (.slice (some ⟨b, off, none⟩) ls.length cap) d) => ends_z (ls.map (St.crs d)) ls.length (.pointer (some ⟨w.heap.size, 0, none⟩)) (.pointer (some ⟨w.heap.size + 1 + 1, 0, none⟩)) (.pointer (some ⟨w.heap.size + 1, 0, none⟩)) W (by rw [List.length_map]) l0 (by omega) (fun i hi W' hb' => by
      have hM' := hM.later hb'
      have := aroundA_f w.heap.size (w.heap.size + 1 + 1) (w.heap.size + 1) b off ls.length i cap d (St.at_ ls i) W' hi hd (hin _ (St.at_mem hi)) ⟨hM'.z, hM'.s, ⟨(c2row hM'.d).1, (c2row hM'.d).2⟩, HRR.out _ hM'.w i hi⟩
      rwa [show (ls.map (St.crs d)).getD i 0 = St.crs d (St.at_ ls i) by rw [St.at_get hi, List.getD_eq_getElem?_getD, List.getElem?_map, List.getElem?_eq_getElem hi]; rfl]))
    obtain ⟨e1, -, e3, e4⟩ := Or.ends_spec (l := ls.map (St.crs d)) (by intro q; have := congrArg List.length q; rw [List.length_map] at this; simp at this; rw [this] at l0; simp at l0)
    have hl : ∀ n ∈ ls.map (St.crs d), -100000000000 ≤ n ∧ n ≤ 100000000000 := fun n hn => by
      obtain ⟨p, hp, rfl⟩ := List.mem_map.1 hn
      have := crs_in hd (hin p hp)
      omega
    have b3 := hl _ (List.mem_of_getElem? e3)
    have b4 := hl _ (List.mem_of_getElem? e4)
    generalize Or.ends (ls.map (St.crs d)) = E at *
    obtain ⟨low, high, a0, a1⟩ := E
    simp only at b3 b4 e1 ⊢
    have HSQ := Lib.hid (fun W (h : Below w.heap.size w W) => by
      have := osquared_c (high - low) ⟨d.x, d.y, 0⟩ W (hg.later h) (by omega) (Bd.mono (k := 100000) (by have := inP_k hd; exact ⟨this.1, this.2, by simp only; omega⟩) (by decide)) (fun q => hne (by
        obtain ⟨dx, dy⟩ := d
        simp only [Or.P3.mk.injEq, and_true] at q
        rw [q.1, q.2]))
      rwa [show sqd (high - low) ⟨d.x, d.y, 0⟩ = Rat.divInt ((high - low) * (high - low)) (St.dot d d) by unfold sqd; rw [dot_flat]] at this)
    have hw : IntKind.i64.wrap (high - low) = high - low := Go.Proofs.Wk.wr rfl (by omega)
    generalize rtoa (Rat.divInt ((high - low) * (high - low)) (St.dot d d)) = R at *
    obtain ⟨dx, dy⟩ := d
    simp only at hz HSQ
    have HZ := Lib.hid hz
    clear hz hR hb hp e1 e3 e4 b3 b4 hl hin hd hne S hg h0 HRR HS
    go_enter Tryz.func85, Tryz.ntmps85
    go_wp2_with fail
    generalize (((w.alloc (.cells #[.func (.func 84) #[] #[]] 118)).alloc (.cells #[.slice (some ⟨b, off, none⟩) ls.length cap] 40)).alloc (.cells #[.int .i64 dx, .int .i64 dy] 42)).alloc (.cells #[.int .i64 0, .int .i64 0] 44) = W0 at *
    have k1 := c1row HZ.out.s
    obtain ⟨k2, k3⟩ := c2row HZ.out.d
    go_wp2_with fail
    ((with_reducible refine (HFL.out _ HZ.out.w).mono ?_); rintro e w1 ⟨rfl, hb1⟩)
    have HZ1 := Lib.hid (HZ.out.later hb1)
    clear k1 k2 k3 hb1 HZ HFL
    have k1 := c1row HZ1.out.s
    go_wp2_with fail
    ((with_reducible refine (HEN.out _ HZ1.out).mono ?_); rintro e w2 ⟨rfl, hb2⟩)
    have hA2 := below_al w2 (.cells #[.int .i64 (a0 : Int), .int .i64 (a1 : Int)] 44)
    have HZ2 := Lib.hid ((HZ1.out.later hb2).later hA2)
    have HN2 := Lib.hid (heap_alloc_new w2 (.cells #[.int .i64 (a0 : Int), .int .i64 (a1 : Int)] 44))
    have HG2 := Lib.hid (show w.heap.size + 1 + 1 + 1 < w2.heap.size from (Array.getElem?_eq_some_iff.1 (HZ1.out.later hb2).r).1)
    clear k1 hb2 HZ1 HEN hA2
    obtain ⟨k2, k3⟩ := c2row HZ2.out.d
    go_wp2_with fail
    generalize w2.alloc (.cells #[.int .i64 (a0 : Int), .int .i64 (a1 : Int)] 44) = w3 at *
    generalize w2.heap.size = g at *
    ((with_reducible refine (HSQ.out _ HZ2.out.w).mono ?_); rintro e w4 ⟨rfl, hb4⟩)
    have HZ4 := Lib.hid (HZ2.out.later hb4)
    have HN4 := Lib.hid (keepD HN2.out hb4)
    clear k2 k3 hb4 HZ2 HN2 HSQ
    obtain ⟨m0, m1⟩ := c2row HN4.out
    obtain ⟨z0, z1⟩ := c2row HZ4.out.r
    have hf := fun k => free_row HZ4.out.r k
    have q1 : ¬ g = w.heap.size + 1 + 1 + 1 := by have := HG2.out; omega
    have q2 : ¬ w.heap.size + 1 + 1 + 1 = g := by have := HG2.out; omega
    go_wp2_with fail
    go_region
    all_goals
      go_wp2
      refine bodyPost_ret (res_tct rfl (by kernel_rfl) (s2rowd HZ4.out.r) Tryz.underlying44 rfl (by kernel_rfl) rfl rfl) rfl ?_
      exact ⟨rfl, (b2row HZ4.out.w (by omega)).drew⟩
  · unfold alongV resZ
    rw [if_neg h0]
    generalize flatE ls d = E at *
    have z : (E != 0) = true := bne_iff_ne.2 h0
    obtain ⟨sa, cap, rfl⟩ := S.len
    obtain ⟨dx, dy⟩ := d
    simp only at hz
    have HZ := Lib.hid hz
    clear hz S hg h0 HS
    go_enter Tryz.func85, Tryz.ntmps85
    go_wp2_with fail
    generalize (((w.alloc (.cells #[.func (.func 84) #[] #[]] 118)).alloc (.cells #[.slice sa ls.length cap] 40)).alloc (.cells #[.int .i64 dx, .int .i64 dy] 42)).alloc (.cells #[.int .i64 0, .int .i64 0] 44) = W0 at *
    have k1 := c1row HZ.out.s
    obtain ⟨k2, k3⟩ := c2row HZ.out.d
    go_wp2_with fail
    ((with_reducible refine (HFL.out _ HZ.out.w).mono ?_); rintro e w1 ⟨rfl, hb1⟩)
    have HZ1 := Lib.hid (HZ.out.later hb1)
    clear k1 k2 k3 hb1 HZ HFL
    obtain ⟨z0, z1⟩ := c2row HZ1.out.r
    have hf := fun k => free_row HZ1.out.r k
    go_wp2
    refine bodyPost_ret (res_tct rfl (by kernel_rfl) (s2row HZ1.out.r) Tryz.underlying44 rfl (by kernel_rfl) rfl rfl) rfl ?_
    exact ⟨rfl, b2row HZ1.out.w (by omega)⟩
set_option maxRecDepth 100000 in
set_option maxHeartbeats 2000000 in
theorem aroundB_f (gz gd gs b off n i : Nat) (cap : Nat) (d p : St.Pt) (W : World) (hi : i < n) (hd : St.InP d) (hp : St.InP p) (hM : ArM W gz gd gs (.func (.func 87) #[] #[]) (.slice (some ⟨b, off, none⟩) n cap) d b (off + i * 2) p) :
    Calls Tryz.prog 139 #[.int .i64 (i : Int), .pointer (some ⟨gz, 0, none⟩), .pointer (some ⟨gd, 0, none⟩), .pointer (some ⟨gs, 0, none⟩)] W (Ret W (.int .i64 (St.dot d p))) := by
  have HF := Lib.hid (fun W => beside_f d p 100000 W (inP_k hd) (inP_k hp) (by decide))
  generalize St.dot d p = R at *
  obtain ⟨dx, dy⟩ := d
  obtain ⟨px, py⟩ := p
  have i0 : (0 : Int) ≤ (i : Int) := by omega
  have i1 : (i : Int) < (n : Int) := by omega
  have HM := Lib.hid hM
  obtain ⟨m0, m1, m2, m3, m4, m5, -⟩ := hM.t
  have HB := Lib.hid (Below.refl W.heap.size W)
  clear hd hp hM
  go_enter Tryz.func139, Tryz.ntmps139
  go_wp2_with fail
  go_region_held3 (fun w' => w'.cell? ⟨gz, 0, none⟩ = some (.func (.func 87) #[] #[]) ∧ w'.cell? ⟨gs, 0, none⟩ = some (.slice (some ⟨b, off, none⟩) n cap) ∧
      w'.cell? ⟨gd, 0, none⟩ = some (.int .i64 dx) ∧ w'.cell? ⟨gd, 1, none⟩ = some (.int .i64 dy) ∧ w'.cell? ⟨b, off + i * 2, none⟩ = some (.int .i64 px) ∧ w'.cell? ⟨b, off + i * 2 + 1, none⟩ = some (.int .i64 py) ∧ ArM w' gz gd gs (.func (.func 87) #[] #[]) (.slice (some ⟨b, off, none⟩) n cap) ⟨dx, dy⟩ b (off + i * 2) ⟨px, py⟩)
    (first | exact JJ.t | exact HM.out.t | exact HM.out.drew.t)
    (first
      | (go_at_call 87; (with_reducible refine (HF.out _).mono ?_); rintro e w4 ⟨rfl, hb4⟩; (first | (have JJ := HM.out.drew.later hb4; have BB := HB.out.drew.nx hb4) | (have JJ := HM.out.later hb4; have BB := HB.out.nx hb4)))
      | fail)
  all_goals
    go_wp2
    go_ret
    exact ⟨rfl, BB⟩
set_option maxRecDepth 100000 in
set_option maxHeartbeats 4000000 in
theorem aroundB_c {v : Value} (ls : List St.Pt) (d : St.Pt) (w : World) (hg : Good w) (S : SlX w v ls) (hln : ls.length ≤ 140737488355328) :
    Calls Tryz.prog 85 #[.agg #[.func (.func 87) #[] #[]], v, ptV d] w (Ret w (besideV ls d)) := by
  have HFL := Lib.hid (fun W (h : Below w.heap.size w W) => oflat_c ls d W (S.later h) hln)
  have hz := znM_new w (.func (.func 87) #[] #[]) v d
  have HS := Lib.hid (fun W (h : Below w.heap.size w W) => S.later h)
  by_cases h0 : flatE ls d = 0
  · obtain ⟨l0, l64, hin, hd, hne⟩ := flatE_ok h0
    rw [h0] at HFL
    unfold besideV resZ
    rw [if_pos h0]
    refine S.cases _ ?_ ?_
    · rintro a cap rfl rfl
      simp at l0
    rintro b off cap rfl hp hR hb
    have HRR := Lib.hid (fun (W : World) (h : Below w.heap.size w W) (k : Nat) (hk : k < ls.length) => (hR.later h hb).ptAt hk)
    have HEN := Lib.hid (fun W (hM : ZnM w W (.func (.func 87) #[] #[]) (.slice (some ⟨b, off, none⟩) ls.length cap) d) => ends_z (ls.map (St.dot d)) ls.length (.pointer (some ⟨w.heap.size, 0, none⟩)) (.pointer (some ⟨w.heap.size + 1 + 1, 0, none⟩)) (.pointer (some ⟨w.heap.size + 1, 0, none⟩)) W (by rw [List.length_map]) l0 (by omega) (fun i hi W' hb' => by
      have hM' := hM.later hb'
      have := aroundB_f w.heap.size (w.heap.size + 1 + 1) (w.heap.size + 1) b off ls.length i cap d (St.at_ ls i) W' hi hd (hin _ (St.at_mem hi)) ⟨hM'.z, hM'.s, ⟨(c2row hM'.d).1, (c2row hM'.d).2⟩, HRR.out _ hM'.w i hi⟩
      rwa [show (ls.map (St.dot d)).getD i 0 = St.dot d (St.at_ ls i) by rw [St.at_get hi, List.getD_eq_getElem?_getD, List.getElem?_map, List.getElem?_eq_getElem hi]; rfl]))
    obtain ⟨e1, -, e3, e4⟩ := Or.ends_spec (l := ls.map (St.dot d)) (by intro q; have := congrArg List.length q; rw [List.length_map] at this; simp at this; rw [this] at l0; simp at l0)
    have hl : ∀ n ∈ ls.map (St.dot d), -100000000000 ≤ n ∧ n ≤ 100000000000 := fun n hn => by
      obtain ⟨p, hp, rfl⟩ := List.mem_map.1 hn
      have := dot_in hd (hin p hp)
      omega
    have b3 := hl _ (List.mem_of_getElem? e3)
    have b4 := hl _ (List.mem_of_getElem? e4)
    generalize Or.ends (ls.map (St.dot d)) = E at *
    obtain ⟨low, high, a0, a1⟩ := E
    simp only at b3 b4 e1 ⊢
    have HSQ := Lib.hid (fun W (h : Below w.heap.size w W) => by
      have := osquared_c (high - low) ⟨d.x, d.y, 0⟩ W (hg.later h) (by omega) (Bd.mono (k := 100000) (by have := inP_k hd; exact ⟨this.1, this.2, by simp only; omega⟩) (by decide)) (fun q => hne (by
        obtain ⟨dx, dy⟩ := d
        simp only [Or.P3.mk.injEq, and_true] at q
        rw [q.1, q.2]))
      rwa [show sqd (high - low) ⟨d.x, d.y, 0⟩ = Rat.divInt ((high - low) * (high - low)) (St.dot d d) by unfold sqd; rw [dot_flat]] at this)
    have hw : IntKind.i64.wrap (high - low) = high - low := Go.Proofs.Wk.wr rfl (by omega)
    generalize rtoa (Rat.divInt ((high - low) * (high - low)) (St.dot d d)) = R at *
    obtain ⟨dx, dy⟩ := d
    simp only at hz HSQ
    have HZ := Lib.hid hz
    clear hz hR hb hp e1 e3 e4 b3 b4 hl hin hd hne S hg h0 HRR HS
    go_enter Tryz.func85, Tryz.ntmps85
    go_wp2_with fail
    generalize (((w.alloc (.cells #[.func (.func 87) #[] #[]] 118)).alloc (.cells #[.slice (some ⟨b, off, none⟩) ls.length cap] 40)).alloc (.cells #[.int .i64 dx, .int .i64 dy] 42)).alloc (.cells #[.int .i64 0, .int .i64 0] 44) = W0 at *
    have k1 := c1row HZ.out.s
    obtain ⟨k2, k3⟩ := c2row HZ.out.d
    go_wp2_with fail
    ((with_reducible refine (HFL.out _ HZ.out.w).mono ?_); rintro e w1 ⟨rfl, hb1⟩)
    have HZ1 := Lib.hid (HZ.out.later hb1)
    clear k1 k2 k3 hb1 HZ HFL
    have k1 := c1row HZ1.out.s
    go_wp2_with fail
    ((with_reducible refine (HEN.out _ HZ1.out).mono ?_); rintro e w2 ⟨rfl, hb2⟩)
    have hA2 := below_al w2 (.cells #[.int .i64 (a0 : Int), .int .i64 (a1 : Int)] 44)
    have HZ2 := Lib.hid ((HZ1.out.later hb2).later hA2)
    have HN2 := Lib.hid (heap_alloc_new w2 (.cells #[.int .i64 (a0 : Int), .int .i64 (a1 : Int)] 44))
    have HG2 := Lib.hid (show w.heap.size + 1 + 1 + 1 < w2.heap.size from (Array.getElem?_eq_some_iff.1 (HZ1.out.later hb2).r).1)
    clear k1 hb2 HZ1 HEN hA2
    obtain ⟨k2, k3⟩ := c2row HZ2.out.d
    go_wp2_with fail
    generalize w2.alloc (.cells #[.int .i64 (a0 : Int), .int .i64 (a1 : Int)] 44) = w3 at *
    generalize w2.heap.size = g at *
    ((with_reducible refine (HSQ.out _ HZ2.out.w).mono ?_); rintro e w4 ⟨rfl, hb4⟩)
    have HZ4 := Lib.hid (HZ2.out.later hb4)
    have HN4 := Lib.hid (keepD HN2.out hb4)
    clear k2 k3 hb4 HZ2 HN2 HSQ
    obtain ⟨m0, m1⟩ := c2row HN4.out
    obtain ⟨z0, z1⟩ := c2row HZ4.out.r
    have hf := fun k => free_row HZ4.out.r k
    have q1 : ¬ g = w.heap.size + 1 + 1 + 1 := by have := HG2.out; omega
    have q2 : ¬ w.heap.size + 1 + 1 + 1 = g := by have := HG2.out; omega
    go_wp2_with fail
    go_region
    all_goals
      go_wp2
      refine bodyPost_ret (res_tct rfl (by kernel_rfl) (s2rowd HZ4.out.r) Tryz.underlying44 rfl (by kernel_rfl) rfl rfl) rfl ?_
      exact ⟨rfl, (b2row HZ4.out.w (by omega)).drew⟩
  · unfold besideV resZ
    rw [if_neg h0]
    generalize flatE ls d = E at *
    have z : (E != 0) = true := bne_iff_ne.2 h0
    obtain ⟨sa, cap, rfl⟩ := S.len
    obtain ⟨dx, dy⟩ := d
    simp only at hz
    have HZ := Lib.hid hz
    clear hz S hg h0 HS
    go_enter Tryz.func85, Tryz.ntmps85
    go_wp2_with fail
    generalize (((w.alloc (.cells #[.func (.func 87) #[] #[]] 118)).alloc (.cells #[.slice sa ls.length cap] 40)).alloc (.cells #[.int .i64 dx, .int .i64 dy] 42)).alloc (.cells #[.int .i64 0, .int .i64 0] 44) = W0 at *
    have k1 := c1row HZ.out.s
    obtain ⟨k2, k3⟩ := c2row HZ.out.d
    go_wp2_with fail
    ((with_reducible refine (HFL.out _ HZ.out.w).mono ?_); rintro e w1 ⟨rfl, hb1⟩)
    have HZ1 := Lib.hid (HZ.out.later hb1)
    clear k1 k2 k3 hb1 HZ HFL
    obtain ⟨z0, z1⟩ := c2row HZ1.out.r
    have hf := fun k => free_row HZ1.out.r k
    go_wp2
    refine bodyPost_ret (res_tct rfl (by kernel_rfl) (s2row HZ1.out.r) Tryz.underlying44 rfl (by kernel_rfl) rfl rfl) rfl ?_
    exact ⟨rfl, b2row HZ1.out.w (by omega)⟩
end Go.Proofs.Wk
/- SQUARENESS: Along, Beside, Parallel. -/
namespace Go.Proofs.Wk
open Go.RowKit Mt

theorem flatE_bd (l : List St.Pt) (d : St.Pt) : 0 ≤ flatE l d ∧ flatE l d ≤ 13 := by
  have h : 0 ≤ St.chkP l ∧ St.chkP l ≤ 13 := by unfold St.chkP; split <;> (try split) <;> omega
  unfold flatE
  split
  · split
    · split
      · omega
      · split <;> omega
    · omega
  · exact h
theorem highE_bd (l : List Or.P3) (d : Or.P3) : 0 ≤ highE l d ∧ highE l d ≤ 13 := by
  have h : 0 ≤ chkS l ∧ chkS l ≤ 13 := by unfold chkS; split <;> (try split) <;> omega
  unfold highE
  split
  · split
    · split
      · omega
      · split <;> omega
    · omega
  · exact h
theorem resZ_form (E : Int) (e : Or.Ed) (D : Int) : ∃ (A : Txt) (i j : Nat), resZ E e D = .tuple #[.string ⟨A.toArray⟩, .agg #[.int .i64 (i : Int), .int .i64 (j : Int)], .int .i64 E] := by
  unfold resZ
  by_cases h : E = 0
  · rw [if_pos h, h]; exact ⟨_, _, _, rfl⟩
  · rw [if_neg h]; exact ⟨[], 0, 0, rfl⟩
/-- A direction's box and a result's cell. -/
structure DrM (w W : World) (cs : Array Value) (t : TypeId) : Prop where
  d : W.heap[w.heap.size]? = some (.cells cs t (0, 0))
  r : W.heap[w.heap.size + 1]? = some (.cells #[.int .i64 0, .int .i64 0] 44 (0, 0))
  w : Below w.heap.size w W
theorem DrM.later {w W W' : World} {cs : Array Value} {t : TypeId} (h : DrM w W cs t) (hb : Below W.heap.size W W') : DrM w W' cs t := ⟨keepD h.d hb, keepD h.r hb, h.w.nx hb⟩
theorem drM_new (w : World) (cs : Array Value) (t : TypeId) : DrM w ((w.alloc (.cells cs t)).alloc (.cells #[.int .i64 0, .int .i64 0] 44)) cs t :=
  ⟨keepD (heap_alloc_new w _) (below_al _ _), new2 w _ _, bx2 w _ _⟩
theorem c3row {w : World} {b : Nat} {u0 u1 u2 : Value} {T : TypeId} {fr : Nat × Nat} (h : w.heap[b]? = some (.cells #[u0, u1, u2] T fr)) : w.cell? ⟨b, 0, none⟩ = some u0 ∧ w.cell? ⟨b, 1, none⟩ = some u1 ∧ w.cell? ⟨b, 2, none⟩ = some u2 :=
  ⟨by rw [cell_of_row _ _ _ _ _ _ h]; rfl, by rw [cell_of_row _ _ _ _ _ _ h]; rfl, by rw [cell_of_row _ _ _ _ _ _ h]; rfl⟩
set_option maxRecDepth 100000 in
set_option maxHeartbeats 2000000 in
theorem Along_c {v : Value} (ls : List St.Pt) (d : St.Pt) (w : World) (hg : Good w) (S : SlX w v ls) (hln : ls.length ≤ 140737488355328) : Calls Tryz.prog 26 #[v, ptV d] w (Ret w (alongV ls d)) := by
  have HAR := Lib.hid (fun W (h : Below w.heap.size w W) => aroundA_c ls d W (hg.later h) (S.later h) hln)
  have hz := drM_new w #[.int .i64 d.x, .int .i64 d.y] 42
  unfold alongV at HAR ⊢
  obtain ⟨A, i, j, hA⟩ := resZ_form (flatE ls d) (Or.ends (ls.map (St.crs d))) (St.dot d d)
  rw [hA] at HAR ⊢
  generalize flatE ls d = E at *
  obtain ⟨dx, dy⟩ := d
  simp only at hz
  have HZ := Lib.hid hz
  clear hA hz S hg
  go_enter Tryz.func26, Tryz.ntmps26
  go_wp2_with fail
  generalize (w.alloc (.cells #[.int .i64 dx, .int .i64 dy] 42)).alloc (.cells #[.int .i64 0, .int .i64 0] 44) = W0 at *
  obtain ⟨k0, k1⟩ := c2row HZ.out.d
  go_wp2_with fail
  ((with_reducible refine (HAR.out _ HZ.out.w).mono ?_); rintro e w1 ⟨rfl, hb1⟩)
  have HZ1 := Lib.hid (HZ.out.later hb1)
  obtain ⟨z0, z1⟩ := c2row HZ1.out.r
  have hf := fun k => free_row HZ1.out.r k
  clear k0 k1 hb1 HZ HAR
  go_wp2
  refine bodyPost_ret (res_tct rfl (by kernel_rfl) (s2row HZ1.out.r) Tryz.underlying44 rfl (by kernel_rfl) rfl rfl) rfl ?_
  exact ⟨rfl, b2row HZ1.out.w (by omega)⟩
set_option maxRecDepth 100000 in
set_option maxHeartbeats 2000000 in
theorem Beside_c {v : Value} (ls : List St.Pt) (d : St.Pt) (w : World) (hg : Good w) (S : SlX w v ls) (hln : ls.length ≤ 140737488355328) : Calls Tryz.prog 28 #[v, ptV d] w (Ret w (besideV ls d)) := by
  have HAR := Lib.hid (fun W (h : Below w.heap.size w W) => aroundB_c ls d W (hg.later h) (S.later h) hln)
  have hz := drM_new w #[.int .i64 d.x, .int .i64 d.y] 42
  unfold besideV at HAR ⊢
  obtain ⟨A, i, j, hA⟩ := resZ_form (flatE ls d) (Or.ends (ls.map (St.dot d))) (St.dot d d)
  rw [hA] at HAR ⊢
  generalize flatE ls d = E at *
  obtain ⟨dx, dy⟩ := d
  simp only at hz
  have HZ := Lib.hid hz
  clear hA hz S hg
  go_enter Tryz.func28, Tryz.ntmps28
  go_wp2_with fail
  generalize (w.alloc (.cells #[.int .i64 dx, .int .i64 dy] 42)).alloc (.cells #[.int .i64 0, .int .i64 0] 44) = W0 at *
  obtain ⟨k0, k1⟩ := c2row HZ.out.d
  go_wp2_with fail
  ((with_reducible refine (HAR.out _ HZ.out.w).mono ?_); rintro e w1 ⟨rfl, hb1⟩)
  have HZ1 := Lib.hid (HZ.out.later hb1)
  obtain ⟨z0, z1⟩ := c2row HZ1.out.r
  have hf := fun k => free_row HZ1.out.r k
  clear k0 k1 hb1 HZ HAR
  go_wp2
  refine bodyPost_ret (res_tct rfl (by kernel_rfl) (s2row HZ1.out.r) Tryz.underlying44 rfl (by kernel_rfl) rfl rfl) rfl ?_
  exact ⟨rfl, b2row HZ1.out.w (by omega)⟩
set_option maxRecDepth 100000 in
set_option maxHeartbeats 2000000 in
theorem rAlong_c {v : Value} (ls : List St.Pt) (d : St.Pt) (w : World) (S : SlX w v ls) (hln : ls.length ≤ 140737488355328) : Calls Tryz.prog 27 #[v, ptV d] w (Ret w (alongV ls d)) := by
  have HER := Lib.hid (fun W (h : Below w.heap.size w W) => rFlat_c ls d W (S.later h) hln)
  have hz := drM_new w #[.int .i64 d.x, .int .i64 d.y] 42
  unfold alongV
  by_cases h0 : flatE ls d = 0
  · obtain ⟨l0, l64, hin, hd, hne⟩ := flatE_ok h0
    have HLN := Lib.hid (fun W (h : Below w.heap.size w W) => rLines_c ls d W (S.later h) l0 l64 hin hd hne)
    rw [h0] at HER
    unfold resZ
    rw [if_pos h0]
    unfold zonV at HLN
    generalize Or.ends (ls.map (St.crs d)) = e at *
    generalize rtoa (Rat.divInt ((e.high - e.low) * (e.high - e.low)) (St.dot d d)) = R at *
    generalize e.a0 = a0 at *
    generalize e.a1 = a1 at *
    obtain ⟨sa, cap, rfl⟩ := S.len
    obtain ⟨dx, dy⟩ := d
    simp only at hz
    have HZ := Lib.hid hz
    clear hz S h0 hin hd hne
    go_enter Tryz.func27, Tryz.ntmps27
    go_wp2_with fail
    generalize (w.alloc (.cells #[.int .i64 dx, .int .i64 dy] 42)).alloc (.cells #[.int .i64 0, .int .i64 0] 44) = W0 at *
    obtain ⟨k0, k1⟩ := c2row HZ.out.d
    go_wp2_with fail
    ((with_reducible refine (HER.out _ HZ.out.w).mono ?_); rintro e w1 ⟨rfl, hb1⟩)
    have HZ1 := Lib.hid (HZ.out.later hb1)
    clear k0 k1 hb1 HZ HER
    obtain ⟨k0, k1⟩ := c2row HZ1.out.d
    go_wp2_with fail
    ((with_reducible refine (HLN.out _ HZ1.out.w).mono ?_); rintro e w2 ⟨rfl, hb2⟩)
    have hA2 := below_al w2 (.cells #[.int .i64 (a0 : Int), .int .i64 (a1 : Int)] 44)
    have HZ2 := Lib.hid ((HZ1.out.later hb2).later hA2)
    have HN2 := Lib.hid (heap_alloc_new w2 (.cells #[.int .i64 (a0 : Int), .int .i64 (a1 : Int)] 44))
    have HG2 := Lib.hid (show w.heap.size + 1 < w2.heap.size from (Array.getElem?_eq_some_iff.1 (HZ1.out.later hb2).r).1)
    clear k0 k1 hb2 HZ1 HLN hA2
    go_wp2_with fail
    generalize w2.alloc (.cells #[.int .i64 (a0 : Int), .int .i64 (a1 : Int)] 44) = w3 at *
    generalize w2.heap.size = g at *
    obtain ⟨m0, m1⟩ := c2row HN2.out
    obtain ⟨z0, z1⟩ := c2row HZ2.out.r
    have hf := fun k => free_row HZ2.out.r k
    have q1 : ¬ g = w.heap.size + 1 := by have := HG2.out; omega
    have q2 : ¬ w.heap.size + 1 = g := by have := HG2.out; omega
    go_region
    all_goals
      go_wp2
      refine bodyPost_ret (res_tct rfl (by kernel_rfl) (s2rowd HZ2.out.r) Tryz.underlying44 rfl (by kernel_rfl) rfl rfl) rfl ?_
      exact ⟨rfl, (b2row HZ2.out.w (by omega)).drew⟩
  · unfold resZ
    rw [if_neg h0]
    generalize flatE ls d = E at *
    have z : (E != 0) = true := bne_iff_ne.2 h0
    obtain ⟨sa, cap, rfl⟩ := S.len
    obtain ⟨dx, dy⟩ := d
    simp only at hz
    have HZ := Lib.hid hz
    clear hz S h0
    go_enter Tryz.func27, Tryz.ntmps27
    go_wp2_with fail
    generalize (w.alloc (.cells #[.int .i64 dx, .int .i64 dy] 42)).alloc (.cells #[.int .i64 0, .int .i64 0] 44) = W0 at *
    obtain ⟨k0, k1⟩ := c2row HZ.out.d
    go_wp2_with fail
    ((with_reducible refine (HER.out _ HZ.out.w).mono ?_); rintro e w1 ⟨rfl, hb1⟩)
    have HZ1 := Lib.hid (HZ.out.later hb1)
    clear k0 k1 hb1 HZ HER
    obtain ⟨z0, z1⟩ := c2row HZ1.out.r
    have hf := fun k => free_row HZ1.out.r k
    go_wp2
    refine bodyPost_ret (res_tct rfl (by kernel_rfl) (s2row HZ1.out.r) Tryz.underlying44 rfl (by kernel_rfl) rfl rfl) rfl ?_
    exact ⟨rfl, b2row HZ1.out.w (by omega)⟩
set_option maxRecDepth 100000 in
set_option maxHeartbeats 2000000 in
theorem rBeside_c {v : Value} (ls : List St.Pt) (d : St.Pt) (w : World) (S : SlX w v ls) (hln : ls.length ≤ 140737488355328) : Calls Tryz.prog 29 #[v, ptV d] w (Ret w (besideV ls d)) := by
  have HER := Lib.hid (fun W (h : Below w.heap.size w W) => rFlat_c ls d W (S.later h) hln)
  have hz := drM_new w #[.int .i64 d.x, .int .i64 d.y] 42
  unfold besideV
  by_cases h0 : flatE ls d = 0
  · obtain ⟨l0, l64, hin, hd, hne⟩ := flatE_ok h0
    have HLN := Lib.hid (fun W (h : Below w.heap.size w W) => rBeams_c ls d W (S.later h) l0 l64 hin hd hne)
    rw [h0] at HER
    unfold resZ
    rw [if_pos h0]
    unfold zonV at HLN
    generalize Or.ends (ls.map (St.dot d)) = e at *
    generalize rtoa (Rat.divInt ((e.high - e.low) * (e.high - e.low)) (St.dot d d)) = R at *
    generalize e.a0 = a0 at *
    generalize e.a1 = a1 at *
    obtain ⟨sa, cap, rfl⟩ := S.len
    obtain ⟨dx, dy⟩ := d
    simp only at hz
    have HZ := Lib.hid hz
    clear hz S h0 hin hd hne
    go_enter Tryz.func29, Tryz.ntmps29
    go_wp2_with fail
    generalize (w.alloc (.cells #[.int .i64 dx, .int .i64 dy] 42)).alloc (.cells #[.int .i64 0, .int .i64 0] 44) = W0 at *
    obtain ⟨k0, k1⟩ := c2row HZ.out.d
    go_wp2_with fail
    ((with_reducible refine (HER.out _ HZ.out.w).mono ?_); rintro e w1 ⟨rfl, hb1⟩)
    have HZ1 := Lib.hid (HZ.out.later hb1)
    clear k0 k1 hb1 HZ HER
    obtain ⟨k0, k1⟩ := c2row HZ1.out.d
    go_wp2_with fail
    ((with_reducible refine (HLN.out _ HZ1.out.w).mono ?_); rintro e w2 ⟨rfl, hb2⟩)
    have hA2 := below_al w2 (.cells #[.int .i64 (a0 : Int), .int .i64 (a1 : Int)] 44)
    have HZ2 := Lib.hid ((HZ1.out.later hb2).later hA2)
    have HN2 := Lib.hid (heap_alloc_new w2 (.cells #[.int .i64 (a0 : Int), .int .i64 (a1 : Int)] 44))
    have HG2 := Lib.hid (show w.heap.size + 1 < w2.heap.size from (Array.getElem?_eq_some_iff.1 (HZ1.out.later hb2).r).1)
    clear k0 k1 hb2 HZ1 HLN hA2
    go_wp2_with fail
    generalize w2.alloc (.cells #[.int .i64 (a0 : Int), .int .i64 (a1 : Int)] 44) = w3 at *
    generalize w2.heap.size = g at *
    obtain ⟨m0, m1⟩ := c2row HN2.out
    obtain ⟨z0, z1⟩ := c2row HZ2.out.r
    have hf := fun k => free_row HZ2.out.r k
    have q1 : ¬ g = w.heap.size + 1 := by have := HG2.out; omega
    have q2 : ¬ w.heap.size + 1 = g := by have := HG2.out; omega
    go_region
    all_goals
      go_wp2
      refine bodyPost_ret (res_tct rfl (by kernel_rfl) (s2rowd HZ2.out.r) Tryz.underlying44 rfl (by kernel_rfl) rfl rfl) rfl ?_
      exact ⟨rfl, (b2row HZ2.out.w (by omega)).drew⟩
  · unfold resZ
    rw [if_neg h0]
    generalize flatE ls d = E at *
    have z : (E != 0) = true := bne_iff_ne.2 h0
    obtain ⟨sa, cap, rfl⟩ := S.len
    obtain ⟨dx, dy⟩ := d
    simp only at hz
    have HZ := Lib.hid hz
    clear hz S h0
    go_enter Tryz.func29, Tryz.ntmps29
    go_wp2_with fail
    generalize (w.alloc (.cells #[.int .i64 dx, .int .i64 dy] 42)).alloc (.cells #[.int .i64 0, .int .i64 0] 44) = W0 at *
    obtain ⟨k0, k1⟩ := c2row HZ.out.d
    go_wp2_with fail
    ((with_reducible refine (HER.out _ HZ.out.w).mono ?_); rintro e w1 ⟨rfl, hb1⟩)
    have HZ1 := Lib.hid (HZ.out.later hb1)
    clear k0 k1 hb1 HZ HER
    obtain ⟨z0, z1⟩ := c2row HZ1.out.r
    have hf := fun k => free_row HZ1.out.r k
    go_wp2
    refine bodyPost_ret (res_tct rfl (by kernel_rfl) (s2row HZ1.out.r) Tryz.underlying44 rfl (by kernel_rfl) rfl rfl) rfl ?_
    exact ⟨rfl, b2row HZ1.out.w (by omega)⟩
set_option maxRecDepth 100000 in
set_option maxHeartbeats 2000000 in
theorem rParallel_c {v : Value} (ls : List Or.P3) (d : Or.P3) (w : World) (S : SlX w v ls) (hln : ls.length ≤ 140737488355328) : Calls Tryz.prog 32 #[v, spV d] w (Ret w (parallelV ls d)) := by
  have HER := Lib.hid (fun W (h : Below w.heap.size w W) => rHigh_c ls d W (S.later h) hln)
  have hz := drM_new w #[.int .i64 d.x, .int .i64 d.y, .int .i64 d.z] 52
  unfold parallelV
  by_cases h0 : highE ls d = 0
  · obtain ⟨l0, l64, hin, hd, hne⟩ := highE_ok h0
    have HLN := Lib.hid (fun W (h : Below w.heap.size w W) => rPlanes_c ls d W (S.later h) l0 l64 hin hd hne)
    rw [h0] at HER
    unfold resZ
    rw [if_pos h0]
    unfold zonV at HLN
    generalize Or.ends (ls.map (Or.dot d)) = e at *
    generalize rtoa (Rat.divInt ((e.high - e.low) * (e.high - e.low)) (Or.dot d d)) = R at *
    generalize e.a0 = a0 at *
    generalize e.a1 = a1 at *
    obtain ⟨sa, cap, rfl⟩ := S.lenS
    obtain ⟨dx, dy, dz⟩ := d
    simp only at hz
    have HZ := Lib.hid hz
    clear hz S h0 hin hd hne
    go_enter Tryz.func32, Tryz.ntmps32
    go_wp2_with fail
    generalize (w.alloc (.cells #[.int .i64 dx, .int .i64 dy, .int .i64 dz] 52)).alloc (.cells #[.int .i64 0, .int .i64 0] 44) = W0 at *
    obtain ⟨k0, k1, k2⟩ := c3row HZ.out.d
    go_wp2_with fail
    ((with_reducible refine (HER.out _ HZ.out.w).mono ?_); rintro e w1 ⟨rfl, hb1⟩)
    have HZ1 := Lib.hid (HZ.out.later hb1)
    clear k0 k1 k2 hb1 HZ HER
    obtain ⟨k0, k1, k2⟩ := c3row HZ1.out.d
    go_wp2_with fail
    ((with_reducible refine (HLN.out _ HZ1.out.w).mono ?_); rintro e w2 ⟨rfl, hb2⟩)
    have hA2 := below_al w2 (.cells #[.int .i64 (a0 : Int), .int .i64 (a1 : Int)] 44)
    have HZ2 := Lib.hid ((HZ1.out.later hb2).later hA2)
    have HN2 := Lib.hid (heap_alloc_new w2 (.cells #[.int .i64 (a0 : Int), .int .i64 (a1 : Int)] 44))
    have HG2 := Lib.hid (show w.heap.size + 1 < w2.heap.size from (Array.getElem?_eq_some_iff.1 (HZ1.out.later hb2).r).1)
    clear k0 k1 k2 hb2 HZ1 HLN hA2
    go_wp2_with fail
    generalize w2.alloc (.cells #[.int .i64 (a0 : Int), .int .i64 (a1 : Int)] 44) = w3 at *
    generalize w2.heap.size = g at *
    obtain ⟨m0, m1⟩ := c2row HN2.out
    obtain ⟨z0, z1⟩ := c2row HZ2.out.r
    have hf := fun k => free_row HZ2.out.r k
    have q1 : ¬ g = w.heap.size + 1 := by have := HG2.out; omega
    have q2 : ¬ w.heap.size + 1 = g := by have := HG2.out; omega
    go_region
    all_goals
      go_wp2
      refine bodyPost_ret (res_tct rfl (by kernel_rfl) (s2rowd HZ2.out.r) Tryz.underlying44 rfl (by kernel_rfl) rfl rfl) rfl ?_
      exact ⟨rfl, (b2row HZ2.out.w (by omega)).drew⟩
  · unfold resZ
    rw [if_neg h0]
    generalize highE ls d = E at *
    have z : (E != 0) = true := bne_iff_ne.2 h0
    obtain ⟨sa, cap, rfl⟩ := S.lenS
    obtain ⟨dx, dy, dz⟩ := d
    simp only at hz
    have HZ := Lib.hid hz
    clear hz S h0
    go_enter Tryz.func32, Tryz.ntmps32
    go_wp2_with fail
    generalize (w.alloc (.cells #[.int .i64 dx, .int .i64 dy, .int .i64 dz] 52)).alloc (.cells #[.int .i64 0, .int .i64 0] 44) = W0 at *
    obtain ⟨k0, k1, k2⟩ := c3row HZ.out.d
    go_wp2_with fail
    ((with_reducible refine (HER.out _ HZ.out.w).mono ?_); rintro e w1 ⟨rfl, hb1⟩)
    have HZ1 := Lib.hid (HZ.out.later hb1)
    clear k0 k1 k2 hb1 HZ HER
    obtain ⟨z0, z1⟩ := c2row HZ1.out.r
    have hf := fun k => free_row HZ1.out.r k
    go_wp2
    refine bodyPost_ret (res_tct rfl (by kernel_rfl) (s2row HZ1.out.r) Tryz.underlying44 rfl (by kernel_rfl) rfl rfl) rfl ?_
    exact ⟨rfl, b2row HZ1.out.w (by omega)⟩
end Go.Proofs.Wk
/- SQUARENESS: the parallel zone, in the program. -/
namespace Go.Proofs.Wk
open Go.RowKit Mt

/-- What the closure of the parallel zone reads. -/
structure PlM (W : World) (gd gs : Nat) (sv : Value) (d : Or.P3) (b o : Nat) (p : Or.P3) : Prop where
  s : W.heap[gs]? = some (.cells #[sv] 50 (0, 0))
  d : SpAt W gd 0 d
  p : SpAt W b o p
theorem PlM.drew {W : World} {gd gs b o : Nat} {sv : Value} {d p : Or.P3} (h : PlM W gd gs sv d b o p) : PlM W.drew gd gs sv d b o p := ⟨h.s, h.d.drew, h.p.drew⟩
theorem PlM.later {W W' : World} {gd gs b o : Nat} {sv : Value} {d p : Or.P3} (h : PlM W gd gs sv d b o p) (hb : Below W.heap.size W W') : PlM W' gd gs sv d b o p := ⟨keepD h.s hb, h.d.later hb, h.p.later hb⟩
theorem PlM.t {W : World} {gd gs b o : Nat} {sv : Value} {dx dy dz px py pz : Int} (h : PlM W gd gs sv ⟨dx, dy, dz⟩ b o ⟨px, py, pz⟩) : W.cell? ⟨gs, 0, none⟩ = some sv ∧
    W.cell? ⟨gd, 0, none⟩ = some (.int .i64 dx) ∧ W.cell? ⟨gd, 1, none⟩ = some (.int .i64 dy) ∧ W.cell? ⟨gd, 2, none⟩ = some (.int .i64 dz) ∧ W.cell? ⟨b, o, none⟩ = some (.int .i64 px) ∧ W.cell? ⟨b, o + 1, none⟩ = some (.int .i64 py) ∧ W.cell? ⟨b, o + 2, none⟩ = some (.int .i64 pz) ∧ PlM W gd gs sv ⟨dx, dy, dz⟩ b o ⟨px, py, pz⟩ :=
  ⟨c1row h.s, h.d.c0, by have := h.d.c1; simpa using this, by have := h.d.c2; simpa using this, h.p.c0, h.p.c1, h.p.c2, h⟩
/-- The boxes of the arguments. -/
structure PzM (w W : World) (sv : Value) (d : Or.P3) : Prop where
  s : W.heap[w.heap.size]? = some (.cells #[sv] 50 (0, 0))
  d : W.heap[w.heap.size + 1]? = some (.cells #[.int .i64 d.x, .int .i64 d.y, .int .i64 d.z] 52 (0, 0))
  r : W.heap[w.heap.size + 1 + 1]? = some (.cells #[.int .i64 0, .int .i64 0] 44 (0, 0))
  w : Below w.heap.size w W
theorem PzM.later {w W W' : World} {sv : Value} {d : Or.P3} (h : PzM w W sv d) (hb : Below W.heap.size W W') : PzM w W' sv d := ⟨keepD h.s hb, keepD h.d hb, keepD h.r hb, h.w.nx hb⟩
theorem pzM_new (w : World) (sv : Value) (d : Or.P3) : PzM w (((w.alloc (.cells #[sv] 50)).alloc (.cells #[.int .i64 d.x, .int .i64 d.y, .int .i64 d.z] 52)).alloc (.cells #[.int .i64 0, .int .i64 0] 44)) sv d :=
  ⟨keepD (keepD (heap_alloc_new w _) (below_al _ _)) (below_al _ _), keepD (new2 w _ _) (below_al _ _), new3 w _ _ _, bx3 w _ _ _⟩
set_option maxRecDepth 100000 in
set_option maxHeartbeats 2000000 in
theorem parallel_f (gd gs b off n i : Nat) (cap : Nat) (d p : Or.P3) (W : World) (hi : i < n) (hd : InS d) (hp : InS p) (hM : PlM W gd gs (.slice (some ⟨b, off, none⟩) n cap) d b (off + i * 3) p) :
    Calls Tryz.prog 91 #[.int .i64 (i : Int), .pointer (some ⟨gd, 0, none⟩), .pointer (some ⟨gs, 0, none⟩)] W (Ret W (.int .i64 (Or.dot d p))) := by
  have HF := Lib.hid (fun W => odot_c d p 100000 100000 W (Bd.of hd) (Bd.of hp) (by decide))
  generalize Or.dot d p = R at *
  obtain ⟨dx, dy, dz⟩ := d
  obtain ⟨px, py, pz⟩ := p
  have i0 : (0 : Int) ≤ (i : Int) := by omega
  have i1 : (i : Int) < (n : Int) := by omega
  have HM := Lib.hid hM
  obtain ⟨m0, m1, m2, m3, m4, m5, m6, -⟩ := hM.t
  have HB := Lib.hid (Below.refl W.heap.size W)
  clear hd hp hM
  go_enter Tryz.func91, Tryz.ntmps91
  go_wp2_with fail
  go_region_held3 (fun w' => w'.cell? ⟨gs, 0, none⟩ = some (.slice (some ⟨b, off, none⟩) n cap) ∧
      w'.cell? ⟨gd, 0, none⟩ = some (.int .i64 dx) ∧ w'.cell? ⟨gd, 1, none⟩ = some (.int .i64 dy) ∧ w'.cell? ⟨gd, 2, none⟩ = some (.int .i64 dz) ∧ w'.cell? ⟨b, off + i * 3, none⟩ = some (.int .i64 px) ∧ w'.cell? ⟨b, off + i * 3 + 1, none⟩ = some (.int .i64 py) ∧ w'.cell? ⟨b, off + i * 3 + 2, none⟩ = some (.int .i64 pz) ∧ PlM w' gd gs (.slice (some ⟨b, off, none⟩) n cap) ⟨dx, dy, dz⟩ b (off + i * 3) ⟨px, py, pz⟩)
    (first | exact JJ.t | exact HM.out.t | exact HM.out.drew.t)
    (first
      | (go_at_call 92; (with_reducible refine (HF.out _).mono ?_); rintro e w4 ⟨rfl, hb4⟩; (first | (have JJ := HM.out.drew.later hb4; have BB := HB.out.drew.nx hb4) | (have JJ := HM.out.later hb4; have BB := HB.out.nx hb4)))
      | fail)
  all_goals
    go_wp2
    go_ret
    exact ⟨rfl, BB⟩
set_option maxRecDepth 100000 in
set_option maxHeartbeats 4000000 in
theorem Parallel_c {v : Value} (ls : List Or.P3) (d : Or.P3) (w : World) (hg : Good w) (S : SlX w v ls) (hln : ls.length ≤ 140737488355328) :
    Calls Tryz.prog 31 #[v, spV d] w (Ret w (parallelV ls d)) := by
  have HFL := Lib.hid (fun W (h : Below w.heap.size w W) => ospace_c ls d W (S.later h) hln)
  have hz := pzM_new w v d
  by_cases h0 : highE ls d = 0
  · obtain ⟨l0, l64, hin, hd, hne⟩ := highE_ok h0
    rw [h0] at HFL
    unfold parallelV resZ
    rw [if_pos h0]
    refine S.cases _ ?_ ?_
    · rintro a cap rfl rfl
      simp at l0
    rintro b off cap rfl hp hR hb
    have HRR := Lib.hid (fun (W : World) (h : Below w.heap.size w W) (k : Nat) (hk : k < ls.length) => (hR.later h hb).spAt hk)
    have HEN := Lib.hid (fun W (hM : PzM w W (.slice (some ⟨b, off, none⟩) ls.length cap) d) => ends_p (ls.map (Or.dot d)) ls.length (.pointer (some ⟨w.heap.size + 1, 0, none⟩)) (.pointer (some ⟨w.heap.size, 0, none⟩)) W (by rw [List.length_map]) l0 (by omega) (fun i hi W' hb' => by
      have hM' := hM.later hb'
      obtain ⟨q0, q1, q2⟩ := c3row hM'.d
      have := parallel_f (w.heap.size + 1) w.heap.size b off ls.length i cap d (Or.at_ ls i) W' hi hd (hin _ (Or.at_mem hi)) ⟨hM'.s, ⟨q0, by simpa using q1, by simpa using q2⟩, HRR.out _ hM'.w i hi⟩
      rwa [show (ls.map (Or.dot d)).getD i 0 = Or.dot d (Or.at_ ls i) by rw [Or.at_get hi, List.getD_eq_getElem?_getD, List.getElem?_map, List.getElem?_eq_getElem hi]; rfl]))
    obtain ⟨e1, -, e3, e4⟩ := Or.ends_spec (l := ls.map (Or.dot d)) (by intro q; have := congrArg List.length q; rw [List.length_map] at this; simp at this; rw [this] at l0; simp at l0)
    have hl : ∀ n ∈ ls.map (Or.dot d), -100000000000 ≤ n ∧ n ≤ 100000000000 := fun n hn => by
      obtain ⟨p, hp, rfl⟩ := List.mem_map.1 hn
      have := dotS_in hd (hin p hp)
      omega
    have b3 := hl _ (List.mem_of_getElem? e3)
    have b4 := hl _ (List.mem_of_getElem? e4)
    generalize Or.ends (ls.map (Or.dot d)) = E at *
    obtain ⟨low, high, a0, a1⟩ := E
    simp only at b3 b4 e1 ⊢
    have HSQ := Lib.hid (fun W (h : Below w.heap.size w W) => by
      have := osquared_c (high - low) d W (hg.later h) (by omega) (Bd.mono (Bd.of hd) (by decide)) hne
      rwa [show sqd (high - low) d = Rat.divInt ((high - low) * (high - low)) (Or.dot d d) from rfl] at this)
    have hw : IntKind.i64.wrap (high - low) = high - low := Go.Proofs.Wk.wr rfl (by omega)
    generalize rtoa (Rat.divInt ((high - low) * (high - low)) (Or.dot d d)) = R at *
    obtain ⟨dx, dy, dz⟩ := d
    simp only at hz HSQ
    have HZ := Lib.hid hz
    clear hz hR hb hp e1 e3 e4 b3 b4 hl hin hd hne S hg h0 HRR
    go_enter Tryz.func31, Tryz.ntmps31
    go_wp2_with fail
    generalize ((w.alloc (.cells #[.slice (some ⟨b, off, none⟩) ls.length cap] 50)).alloc (.cells #[.int .i64 dx, .int .i64 dy, .int .i64 dz] 52)).alloc (.cells #[.int .i64 0, .int .i64 0] 44) = W0 at *
    have k1 := c1row HZ.out.s
    obtain ⟨k2, k3, k4⟩ := c3row HZ.out.d
    go_wp2_with fail
    ((with_reducible refine (HFL.out _ HZ.out.w).mono ?_); rintro e w1 ⟨rfl, hb1⟩)
    have HZ1 := Lib.hid (HZ.out.later hb1)
    clear k1 k2 k3 k4 hb1 HZ HFL
    have k1 := c1row HZ1.out.s
    go_wp2_with fail
    ((with_reducible refine (HEN.out _ HZ1.out).mono ?_); rintro e w2 ⟨rfl, hb2⟩)
    have hA2 := below_al w2 (.cells #[.int .i64 (a0 : Int), .int .i64 (a1 : Int)] 44)
    have HZ2 := Lib.hid ((HZ1.out.later hb2).later hA2)
    have HN2 := Lib.hid (heap_alloc_new w2 (.cells #[.int .i64 (a0 : Int), .int .i64 (a1 : Int)] 44))
    have HG2 := Lib.hid (show w.heap.size + 1 + 1 < w2.heap.size from (Array.getElem?_eq_some_iff.1 (HZ1.out.later hb2).r).1)
    clear k1 hb2 HZ1 HEN hA2
    obtain ⟨k2, k3, k4⟩ := c3row HZ2.out.d
    go_wp2_with fail
    generalize w2.alloc (.cells #[.int .i64 (a0 : Int), .int .i64 (a1 : Int)] 44) = w3 at *
    generalize w2.heap.size = g at *
    ((with_reducible refine (HSQ.out _ HZ2.out.w).mono ?_); rintro e w4 ⟨rfl, hb4⟩)
    have HZ4 := Lib.hid (HZ2.out.later hb4)
    have HN4 := Lib.hid (keepD HN2.out hb4)
    clear k2 k3 k4 hb4 HZ2 HN2 HSQ
    obtain ⟨m0, m1⟩ := c2row HN4.out
    obtain ⟨z0, z1⟩ := c2row HZ4.out.r
    have hf := fun k => free_row HZ4.out.r k
    have q1 : ¬ g = w.heap.size + 1 + 1 := by have := HG2.out; omega
    have q2 : ¬ w.heap.size + 1 + 1 = g := by have := HG2.out; omega
    go_wp2_with fail
    go_region
    all_goals
      go_wp2
      refine bodyPost_ret (res_tct rfl (by kernel_rfl) (s2rowd HZ4.out.r) Tryz.underlying44 rfl (by kernel_rfl) rfl rfl) rfl ?_
      exact ⟨rfl, (b2row HZ4.out.w (by omega)).drew⟩
  · unfold parallelV resZ
    rw [if_neg h0]
    generalize highE ls d = E at *
    have z : (E != 0) = true := bne_iff_ne.2 h0
    obtain ⟨sa, cap, rfl⟩ := S.lenS
    obtain ⟨dx, dy, dz⟩ := d
    simp only at hz
    have HZ := Lib.hid hz
    clear hz S hg h0
    go_enter Tryz.func31, Tryz.ntmps31
    go_wp2_with fail
    generalize ((w.alloc (.cells #[.slice sa ls.length cap] 50)).alloc (.cells #[.int .i64 dx, .int .i64 dy, .int .i64 dz] 52)).alloc (.cells #[.int .i64 0, .int .i64 0] 44) = W0 at *
    have k1 := c1row HZ.out.s
    obtain ⟨k2, k3, k4⟩ := c3row HZ.out.d
    go_wp2_with fail
    ((with_reducible refine (HFL.out _ HZ.out.w).mono ?_); rintro e w1 ⟨rfl, hb1⟩)
    have HZ1 := Lib.hid (HZ.out.later hb1)
    clear k1 k2 k3 k4 hb1 HZ HFL
    obtain ⟨z0, z1⟩ := c2row HZ1.out.r
    have hf := fun k => free_row HZ1.out.r k
    go_wp2
    refine bodyPost_ret (res_tct rfl (by kernel_rfl) (s2row HZ1.out.r) Tryz.underlying44 rfl (by kernel_rfl) rfl rfl) rfl ?_
    exact ⟨rfl, b2row HZ1.out.w (by omega)⟩
end Go.Proofs.Wk
