/- SQUARENESS: the law of the least upright zone, walked. -/
import Derived.Test.YtenoganbeccanaaGreatDoorLoK
import Derived.BigRegion
namespace Go.Proofs.Wk
open Go.RowKit Mt

/-- What lies in memory: the direction and the other way. -/
structure LsM (w W : World) (d v : Or.P3) : Prop where
  d : SpAt W w.heap.size 0 d
  v : SpAt W (w.heap.size + 1) 0 v
  w : Below w.heap.size w W
theorem LsM.later {w W W' : World} {d v : Or.P3} (h : LsM w W d v) (hb : Below W.heap.size W W') : LsM w W' d v := ⟨h.d.later hb, h.v.later hb, h.w.nx hb⟩
theorem LsM.drew {w W : World} {d v : Or.P3} (h : LsM w W d v) : LsM w W.drew d v := ⟨h.d.drew, h.v.drew, h.w.drew⟩
theorem SpAt.row {W : World} {g : Nat} {x y z : Int} {T : TypeId} (h : W.heap[g]? = some (.cells #[.int .i64 x, .int .i64 y, .int .i64 z] T (0, 0))) : SpAt W g 0 ⟨x, y, z⟩ := ⟨(c3row h).1, (c3row h).2.1, (c3row h).2.2⟩
theorem lsM_new (w : World) (d v : Or.P3) : LsM w ((w.alloc (.cells #[.int .i64 d.x, .int .i64 d.y, .int .i64 d.z] 52)).alloc (.cells #[.int .i64 v.x, .int .i64 v.y, .int .i64 v.z] 52)) d v :=
  ⟨(SpAt.new w d _).later (below_al _ _), SpAt.row (new2 w _ _), bx2 w _ _⟩
theorem LsM.t {w W : World} {dx dy dz vx vy vz : Int} (h : LsM w W ⟨dx, dy, dz⟩ ⟨vx, vy, vz⟩) : W.cell? ⟨w.heap.size, 0, none⟩ = some (.int .i64 dx) ∧ W.cell? ⟨w.heap.size, 1, none⟩ = some (.int .i64 dy) ∧ W.cell? ⟨w.heap.size, 2, none⟩ = some (.int .i64 dz) ∧
    W.cell? ⟨w.heap.size + 1, 0, none⟩ = some (.int .i64 vx) ∧ W.cell? ⟨w.heap.size + 1, 1, none⟩ = some (.int .i64 vy) ∧ W.cell? ⟨w.heap.size + 1, 2, none⟩ = some (.int .i64 vz) :=
  ⟨h.d.t0.1, h.d.t0.2.1, h.d.t0.2.2, h.v.t0.1, h.v.t0.2.1, h.v.t0.2.2⟩
/-- What lies in memory where the two ways are laid out. -/
structure LrM (w W : World) (d v : Or.P3) (y b oi oj : Nat) (pi pj pk : Nat) (a c : Or.P3) : Prop where
  l : LsM w W d v
  y : W.heap[y]? = some (.cells #[.int .i64 (pi : Int), .int .i64 (pj : Int), .int .i64 (pk : Int)] 57 (0, 0))
  a : SpAt W b oi a
  c : SpAt W b oj c
theorem LrM.later {w W W' : World} {d v : Or.P3} {y b oi oj pi pj pk : Nat} {a c : Or.P3} (h : LrM w W d v y b oi oj pi pj pk a c) (hb : Below W.heap.size W W') : LrM w W' d v y b oi oj pi pj pk a c := ⟨h.l.later hb, keepD h.y hb, h.a.later hb, h.c.later hb⟩
theorem LrM.drew {w W : World} {d v : Or.P3} {y b oi oj pi pj pk : Nat} {a c : Or.P3} (h : LrM w W d v y b oi oj pi pj pk a c) : LrM w W.drew d v y b oi oj pi pj pk a c := ⟨h.l.drew, h.y, h.a.drew, h.c.drew⟩
theorem LrM.t {w W : World} {dx dy dz vx vy vz ax ay az cx cy cz : Int} {y b oi oj pi pj pk : Nat} (h : LrM w W ⟨dx, dy, dz⟩ ⟨vx, vy, vz⟩ y b oi oj pi pj pk ⟨ax, ay, az⟩ ⟨cx, cy, cz⟩) :
    W.cell? ⟨w.heap.size + 1, 0, none⟩ = some (.int .i64 vx) ∧ W.cell? ⟨w.heap.size + 1, 1, none⟩ = some (.int .i64 vy) ∧ W.cell? ⟨w.heap.size + 1, 2, none⟩ = some (.int .i64 vz) ∧
    W.cell? ⟨y, 0, none⟩ = some (.int .i64 (pi : Int)) ∧ W.cell? ⟨y, 1, none⟩ = some (.int .i64 (pj : Int)) ∧
    W.cell? ⟨b, oi, none⟩ = some (.int .i64 ax) ∧ W.cell? ⟨b, oi + 1, none⟩ = some (.int .i64 ay) ∧ W.cell? ⟨b, oi + 2, none⟩ = some (.int .i64 az) ∧
    W.cell? ⟨b, oj, none⟩ = some (.int .i64 cx) ∧ W.cell? ⟨b, oj + 1, none⟩ = some (.int .i64 cy) ∧ W.cell? ⟨b, oj + 2, none⟩ = some (.int .i64 cz) ∧ LrM w W ⟨dx, dy, dz⟩ ⟨vx, vy, vz⟩ y b oi oj pi pj pk ⟨ax, ay, az⟩ ⟨cx, cy, cz⟩ :=
  ⟨h.l.t.2.2.2.1, h.l.t.2.2.2.2.1, h.l.t.2.2.2.2.2, (c3row h.y).1, (c3row h.y).2.1, h.a.t.1, h.a.t.2.1, h.a.t.2.2, h.c.t.1, h.c.t.2.1, h.c.t.2.2, h⟩
/-- Where the two ways lie. -/
theorem ways_new (W : World) (v e : Or.P3) (T : TypeId) : ∀ i, i < 2 → SpAt (W.alloc (.cells #[.int .i64 v.x, .int .i64 v.y, .int .i64 v.z, .int .i64 e.x, .int .i64 e.y, .int .i64 e.z] T)) W.heap.size (i * 3) (if i = 0 then v else e) := by
  have h := heap_alloc_new W (.cells #[.int .i64 v.x, .int .i64 v.y, .int .i64 v.z, .int .i64 e.x, .int .i64 e.y, .int .i64 e.z] T)
  intro i hi
  rcases (by omega : i = 0 ∨ i = 1) with rfl | rfl
  · exact ⟨by rw [cell_of_row _ _ _ _ _ _ h]; rfl, by rw [cell_of_row _ _ _ _ _ _ h]; rfl, by rw [cell_of_row _ _ _ _ _ _ h]; rfl⟩
  · exact ⟨by rw [cell_of_row _ _ _ _ _ _ h]; rfl, by rw [cell_of_row _ _ _ _ _ _ h]; rfl, by rw [cell_of_row _ _ _ _ _ _ h]; rfl⟩
def outL (ls : List Or.P3) (d v : Or.P3) : Prop := 6 < ls.length ∨ highE ls d ≠ 0 ∨ near3 d = false ∨ near3 v = false ∨ ls.any far3 = true
theorem near_bd {p : Or.P3} (h : near3 p = true) : Bd 999 p := by
  have := near3_is.1 h
  unfold Bd
  omega
theorem way_bd {ls : List Or.P3} {d v : Or.P3} {i : Nat} (h0 : 0 < ls.length) (hn : ∀ p ∈ ls, near3 p = true) (hv : near3 v = true) : Bd 1998 (wayL ls d v i) := by
  unfold wayL
  obtain ⟨a, b, -⟩ := own_lt (d := d) h0
  split
  · exact (near_bd hv).mono (by decide)
  · exact (near_bd (hn _ (Or.at_mem b))).sub (near_bd (hn _ (Or.at_mem a))) (by decide)
set_option maxRecDepth 100000 in
set_option maxHeartbeats 4000000 in
theorem least_out {u : Value} (ls : List Or.P3) (d v : Or.P3) (w : World) (hg : Good w) (S : SlX w u ls) (hln : ls.length ≤ 140737488355328) (h : outL ls d v) :
    Calls Tryz.prog 11 #[u, spV d, spV v] w (Ret w (.bool true)) := by
  have HAW := Lib.hid (fun W (h : Below w.heap.size w W) => awakeO_c W (hg.later h))
  have HHI := Lib.hid (fun W (h : Below w.heap.size w W) => rHigh_c ls d W (S.later h) hln)
  have HNR := Lib.hid (fun W => near_c d W)
  have HNV := Lib.hid (fun W => near_c v W)
  have HCT := Lib.hid (fun W (h : Below w.heap.size w W) => cont_l3 ls W (S.later h) hln)
  have HL0 := Lib.hid (lsM_new w d v)
  obtain ⟨sa, cap, rfl⟩ := S.lenS
  by_cases c1 : 6 < ls.length
  · have z1 : (6 : Int) < (ls.length : Int) := by omega
    clear S hg h c1 HHI HNR HCT HNV
    obtain ⟨dx, dy, dz⟩ := d
    obtain ⟨vx, vy, vz⟩ := v
    go_enter Tryz.func11, Tryz.ntmps11
    go_wp2_with fail
    have hl0 := HL0.out
    try simp only at hl0
    have HL1 := Lib.hid hl0
    clear HL0 hl0
    generalize (w.alloc (.cells #[.int .i64 dx, .int .i64 dy, .int .i64 dz] 52)).alloc (.cells #[.int .i64 vx, .int .i64 vy, .int .i64 vz] 52) = W at *
    have hBy := HL1.out.w
    ((with_reducible refine (HAW.out _ hBy).mono ?_); rintro e wz ⟨rfl, hbz⟩)
    have hBz := hBy.nx hbz
    go_wp2
    go_ret
    exact ⟨rfl, hBz⟩
  have z1 : ¬ (6 : Int) < (ls.length : Int) := by omega
  by_cases c2 : highE ls d = 0
  rotate_left
  · generalize highE ls d = E at *
    have z2 : (E != 0) = true := bne_iff_ne.2 c2
    clear S hg h c1 c2 HNR HCT HNV
    obtain ⟨dx, dy, dz⟩ := d
    obtain ⟨vx, vy, vz⟩ := v
    go_enter Tryz.func11, Tryz.ntmps11
    have hl0 := HL0.out
    try simp only at hl0
    have HL0 := Lib.hid hl0
    obtain ⟨u0, u1, u2, u3, u4, u5⟩ := hl0.t
    clear hl0
    go_wp2_with fail
    generalize (w.alloc (.cells #[.int .i64 dx, .int .i64 dy, .int .i64 dz] 52)).alloc (.cells #[.int .i64 vx, .int .i64 vy, .int .i64 vz] 52) = W at *
    ((with_reducible refine (HHI.out _ HL0.out.w).mono ?_); rintro e w1 ⟨rfl, hb1⟩)
    have HL1 := Lib.hid (HL0.out.later hb1)
    clear u0 u1 u2 u3 u4 u5 hb1 HL0
    go_wp2_with fail
    have hBy := HL1.out.w
    ((with_reducible refine (HAW.out _ hBy).mono ?_); rintro e wz ⟨rfl, hbz⟩)
    have hBz := hBy.nx hbz
    go_wp2
    go_ret
    exact ⟨rfl, hBz⟩
  rw [c2] at HHI
  by_cases c3 : near3 d = true
  rotate_left
  · rw [Bool.not_eq_true] at c3
    rw [c3] at HNR
    clear S hg h c1 c2 c3 HCT HNV
    obtain ⟨dx, dy, dz⟩ := d
    obtain ⟨vx, vy, vz⟩ := v
    go_enter Tryz.func11, Tryz.ntmps11
    have hl0 := HL0.out
    try simp only at hl0
    have HL0 := Lib.hid hl0
    obtain ⟨u0, u1, u2, u3, u4, u5⟩ := hl0.t
    clear hl0
    go_wp2_with fail
    generalize (w.alloc (.cells #[.int .i64 dx, .int .i64 dy, .int .i64 dz] 52)).alloc (.cells #[.int .i64 vx, .int .i64 vy, .int .i64 vz] 52) = W at *
    ((with_reducible refine (HHI.out _ HL0.out.w).mono ?_); rintro e w1 ⟨rfl, hb1⟩)
    have HL1 := Lib.hid (HL0.out.later hb1)
    clear u0 u1 u2 u3 u4 u5 hb1 HL0
    obtain ⟨u0, u1, u2, u3, u4, u5⟩ := HL1.out.t
    go_wp2_with fail
    ((with_reducible refine (HNR.out _).mono ?_); rintro e w2 ⟨rfl, hb2⟩)
    have HL2 := Lib.hid (HL1.out.later hb2)
    clear u0 u1 u2 u3 u4 u5 hb2 HL1
    go_wp2_with fail
    have hBy := HL2.out.w
    ((with_reducible refine (HAW.out _ hBy).mono ?_); rintro e wz ⟨rfl, hbz⟩)
    have hBz := hBy.nx hbz
    go_wp2
    go_ret
    exact ⟨rfl, hBz⟩
  rw [c3] at HNR
  by_cases c4 : near3 v = true
  rotate_left
  · rw [Bool.not_eq_true] at c4
    rw [c4] at HNV
    clear S hg h c1 c2 c3 c4 HCT
    obtain ⟨dx, dy, dz⟩ := d
    obtain ⟨vx, vy, vz⟩ := v
    go_enter Tryz.func11, Tryz.ntmps11
    have hl0 := HL0.out
    try simp only at hl0
    have HL0 := Lib.hid hl0
    obtain ⟨u0, u1, u2, u3, u4, u5⟩ := hl0.t
    clear hl0
    go_wp2_with fail
    generalize (w.alloc (.cells #[.int .i64 dx, .int .i64 dy, .int .i64 dz] 52)).alloc (.cells #[.int .i64 vx, .int .i64 vy, .int .i64 vz] 52) = W at *
    ((with_reducible refine (HHI.out _ HL0.out.w).mono ?_); rintro e w1 ⟨rfl, hb1⟩)
    have HL1 := Lib.hid (HL0.out.later hb1)
    clear u0 u1 u2 u3 u4 u5 hb1 HL0
    obtain ⟨u0, u1, u2, u3, u4, u5⟩ := HL1.out.t
    go_wp2_with fail
    ((with_reducible refine (HNR.out _).mono ?_); rintro e w2 ⟨rfl, hb2⟩)
    have HL2 := Lib.hid (HL1.out.later hb2)
    clear u0 u1 u2 u3 u4 u5 hb2 HL1
    obtain ⟨u0, u1, u2, u3, u4, u5⟩ := HL2.out.t
    go_wp2_with fail
    ((with_reducible refine (HNV.out _).mono ?_); rintro e w3 ⟨rfl, hb3⟩)
    have HL3 := Lib.hid (HL2.out.later hb3)
    clear u0 u1 u2 u3 u4 u5 hb3 HL2
    go_wp2_with fail
    have hBy := HL3.out.w
    ((with_reducible refine (HAW.out _ hBy).mono ?_); rintro e wz ⟨rfl, hbz⟩)
    have hBz := hBy.nx hbz
    go_wp2
    go_ret
    exact ⟨rfl, hBz⟩
  rw [c4] at HNV
  by_cases c5 : ls.any far3 = true
  · rw [c5] at HCT
    clear S hg h c1 c2 c3 c4 c5
    obtain ⟨dx, dy, dz⟩ := d
    obtain ⟨vx, vy, vz⟩ := v
    go_enter Tryz.func11, Tryz.ntmps11
    have hl0 := HL0.out
    try simp only at hl0
    have HL0 := Lib.hid hl0
    obtain ⟨u0, u1, u2, u3, u4, u5⟩ := hl0.t
    clear hl0
    go_wp2_with fail
    generalize (w.alloc (.cells #[.int .i64 dx, .int .i64 dy, .int .i64 dz] 52)).alloc (.cells #[.int .i64 vx, .int .i64 vy, .int .i64 vz] 52) = W at *
    ((with_reducible refine (HHI.out _ HL0.out.w).mono ?_); rintro e w1 ⟨rfl, hb1⟩)
    have HL1 := Lib.hid (HL0.out.later hb1)
    clear u0 u1 u2 u3 u4 u5 hb1 HL0
    obtain ⟨u0, u1, u2, u3, u4, u5⟩ := HL1.out.t
    go_wp2_with fail
    ((with_reducible refine (HNR.out _).mono ?_); rintro e w2 ⟨rfl, hb2⟩)
    have HL2 := Lib.hid (HL1.out.later hb2)
    clear u0 u1 u2 u3 u4 u5 hb2 HL1
    obtain ⟨u0, u1, u2, u3, u4, u5⟩ := HL2.out.t
    go_wp2_with fail
    ((with_reducible refine (HNV.out _).mono ?_); rintro e w3 ⟨rfl, hb3⟩)
    have HL3 := Lib.hid (HL2.out.later hb3)
    clear u0 u1 u2 u3 u4 u5 hb3 HL2
    obtain ⟨u0, u1, u2, u3, u4, u5⟩ := HL3.out.t
    go_wp2_with fail
    ((with_reducible refine (HCT.out _ HL3.out.w).mono ?_); rintro e w4 ⟨rfl, hb4⟩)
    have HL4 := Lib.hid (HL3.out.later hb4)
    clear u0 u1 u2 u3 u4 u5 hb4 HL3
    go_wp2_with fail
    have hBy := HL4.out.w
    ((with_reducible refine (HAW.out _ hBy).mono ?_); rintro e wz ⟨rfl, hbz⟩)
    have hBz := hBy.nx hbz
    go_wp2
    go_ret
    exact ⟨rfl, hBz⟩
  · exact absurd h (by unfold outL; rintro (h | h | h | h | h); exact c1 h; exact h c2; (rw [c3] at h; cases h); (rw [c4] at h; cases h); exact c5 h)
set_option maxRecDepth 100000 in
set_option maxHeartbeats 8000000 in
theorem least_main {u : Value} (ls : List Or.P3) (d v : Or.P3) (w : World) (hg : Good w) (S : SlX w u ls) (hln : ls.length ≤ 140737488355328) (ho : ¬ outL ls d v) :
    Calls Tryz.prog 11 #[u, spV d, spV v] w (Ret w (.bool true)) := by
  have c1 : ¬ 6 < ls.length := fun h => ho (.inl h)
  have c2 : highE ls d = 0 := Decidable.byContradiction fun h => ho (.inr (.inl h))
  have c3 : near3 d = true := by cases q : near3 d with | true => rfl | false => exact absurd (.inr (.inr (.inl q))) ho
  have c4 : near3 v = true := by cases q : near3 v with | true => rfl | false => exact absurd (.inr (.inr (.inr (.inl q)))) ho
  have c5 : ls.any far3 = false := by cases q : ls.any far3 with | false => rfl | true => exact absurd (.inr (.inr (.inr (.inr q)))) ho
  have hnr := far3_no c5
  obtain ⟨l0, l64, hin, hd, hne⟩ := highE_ok c2
  have HAW := Lib.hid (fun W (h : Below w.heap.size w W) => awakeO_c W (hg.later h))
  have HHI := Lib.hid (fun W (h : Below w.heap.size w W) => rHigh_c ls d W (S.later h) hln)
  have HNR := Lib.hid (fun W => near_c d W)
  have HNV := Lib.hid (fun W => near_c v W)
  have HCT := Lib.hid (fun W (h : Below w.heap.size w W) => cont_l3 ls W (S.later h) hln)
  have HL0 := Lib.hid (lsM_new w d v)
  rw [c2] at HHI
  rw [c3] at HNR
  rw [c4] at HNV
  rw [c5] at HCT
  have z1 : ¬ (6 : Int) < (ls.length : Int) := by omega
  obtain ⟨o1, o2, o3⟩ := own_lt (d := d) l0
  have hup : upV ls d = uprV ls d := if_pos c2
  have hvu := vuE_own c2
  have hsu : (rtoa (Or.wid ls d)).length ≤ 140737488355328 := tlen ((wid_szO hd hin).ok (by decide))
  have HUP := Lib.hid (fun W (h : Below w.heap.size w W) => by have := Upright_c ls d W (hg.later h) (S.later h) hln; rwa [hup] at this)
  have HVU := Lib.hid (fun W (h : Below w.heap.size w W) => by have := VerifyUpright_c ls d (rtoa (Or.wid ls d)) (Or.prI (Or.least ls d) : Int) (Or.prJ (Or.least ls d) : Int) (Or.prK (Or.least ls d) : Int) W (hg.later h) (S.later h) hln hsu; rwa [hvu] at this)
  have HLS := Lib.hid (fun W => rLess_c (Or.at_ ls (Or.prJ (Or.least ls d))) (Or.at_ ls (Or.prI (Or.least ls d))) 100000 100000 W (Bd.of (hin _ (Or.at_mem o2))) (Bd.of (hin _ (Or.at_mem o1))) (by decide))
  have HVC := Lib.hid (fun i W => rVector_c d (wayL ls d v i) 999 1998 W (near_bd c3) (way_bd l0 hnr c4) (by decide))
  have HRS := Lib.hid (fun n W => rRightS_p n W)
  have HHN := Lib.hid (fun n (h : inS n = true) (h2 : n ≠ ⟨0, 0, 0⟩) => highE_mk l0 l64 hin (inS_iff.1 h) h2)
  have HPA := Lib.hid (fun n (h : highE ls n = 0) => show ∃ i j : Nat, ∀ W, Below w.heap.size w W → Calls Tryz.prog 31 #[u, spV n] W (Ret W (.tuple #[.string ⟨(rtoa (Or.par ls n)).toArray⟩, .agg #[.int .i64 (i : Int), .int .i64 (j : Int)], .int .i64 0])) from by
    obtain ⟨i, j, e⟩ := parallel_val h
    refine ⟨i, j, fun W hb => ?_⟩
    have := Parallel_c ls n W (hg.later hb) (S.later hb) hln
    rwa [e] at this)
  have HCM := Lib.hid (fun n (h : inS n = true) (h2 : n ≠ ⟨0, 0, 0⟩) W (hb : Below w.heap.size w W) => qCmpR (Or.wid ls d) (Or.par ls n) W (hg.later hb) ((wid_szO hd hin).mono (by decide)) ((par_szO l0 hin (inS_iff.1 h) h2).mono (by decide)))
  have HWL := Lib.hid (fun i (hn : Or.crs d (wayL ls d v i) ≠ ⟨0, 0, 0⟩) => way_le l0 hn)
  refine S.cases _ ?_ ?_
  · rintro a cap rfl rfl
    simp at l0
  rintro b off cap rfl hp hR hb
  have HA1 := Lib.hid (fun (W : World) (h : Below w.heap.size w W) => (hR.later h hb).spAt o1)
  have HA2 := Lib.hid (fun (W : World) (h : Below w.heap.size w W) => (hR.later h hb).spAt o2)
  have hw1 : wayL ls d v 1 = Or.sub (Or.at_ ls (Or.prJ (Or.least ls d))) (Or.at_ ls (Or.prI (Or.least ls d))) := rfl
  have HW2 := Lib.hid (fun i => show wayL ls d v i = if i = 0 then v else Or.sub (Or.at_ ls (Or.prJ (Or.least ls d))) (Or.at_ ls (Or.prI (Or.least ls d))) from rfl)
  unfold uprV at HUP
  generalize wayL ls d v = WY at *
  clear hw1 hnr hvu hup c1 c2 c3 c4 c5 ho S hg hin hd hne hsu l64 hp hR hb
  generalize Or.at_ ls (Or.prI (Or.least ls d)) = pa at *
  generalize Or.at_ ls (Or.prJ (Or.least ls d)) = pc at *
  generalize Or.prI (Or.least ls d) = pi at *
  generalize Or.prJ (Or.least ls d) = pj at *
  generalize Or.prK (Or.least ls d) = pk at *
  have i1 : (pi : Int) < (ls.length : Int) := by omega
  have i2 : (pj : Int) < (ls.length : Int) := by omega
  have i3 : (pk : Int) < (ls.length : Int) := by omega
  clear o1 o2 o3 l0
  obtain ⟨dx, dy, dz⟩ := d
  obtain ⟨vx, vy, vz⟩ := v
  go_enter Tryz.func11, Tryz.ntmps11
  have hl0 := HL0.out
  try simp only at hl0
  have HL0 := Lib.hid hl0
  obtain ⟨u0, u1, u2, u3, u4, u5⟩ := hl0.t
  clear hl0
  go_wp2_with fail
  generalize (w.alloc (.cells #[.int .i64 dx, .int .i64 dy, .int .i64 dz] 52)).alloc (.cells #[.int .i64 vx, .int .i64 vy, .int .i64 vz] 52) = W at *
  ((with_reducible refine (HHI.out _ HL0.out.w).mono ?_); rintro e w1 ⟨rfl, hb1⟩)
  have HL1 := Lib.hid (HL0.out.later hb1)
  clear u0 u1 u2 u3 u4 u5 hb1 HL0
  obtain ⟨u0, u1, u2, u3, u4, u5⟩ := HL1.out.t
  go_wp2_with fail
  ((with_reducible refine (HNR.out _).mono ?_); rintro e w2 ⟨rfl, hb2⟩)
  have HL2 := Lib.hid (HL1.out.later hb2)
  clear u0 u1 u2 u3 u4 u5 hb2 HL1
  obtain ⟨u0, u1, u2, u3, u4, u5⟩ := HL2.out.t
  go_wp2_with fail
  ((with_reducible refine (HNV.out _).mono ?_); rintro e w3 ⟨rfl, hb3⟩)
  have HL3 := Lib.hid (HL2.out.later hb3)
  clear u0 u1 u2 u3 u4 u5 hb3 HL2
  obtain ⟨u0, u1, u2, u3, u4, u5⟩ := HL3.out.t
  go_wp2_with fail
  ((with_reducible refine (HCT.out _ HL3.out.w).mono ?_); rintro e w4 ⟨rfl, hb4⟩)
  have HL4 := Lib.hid (HL3.out.later hb4)
  clear u0 u1 u2 u3 u4 u5 hb4 HL3
  clear HHI HNR HNV HCT
  obtain ⟨u0, u1, u2, u3, u4, u5⟩ := HL4.out.t
  go_wp2_with fail
  ((with_reducible refine (HUP.out _ HL4.out.w).mono ?_); rintro e t1 ⟨rfl, q1⟩)
  clear u0 u1 u2 u3 u4 u5
  have a1 := below_al t1 (.cells (prC pi pj pk) 57)
  have HL5 := Lib.hid ((HL4.out.later q1).later a1)
  have HY1 := Lib.hid (heap_alloc_new t1 (.cells (prC pi pj pk) 57))
  clear q1 a1 HL4 HUP
  go_upto_region 4 with fail
  generalize t1.alloc (.cells #[.int .i64 (pi : Int), .int .i64 (pj : Int), .int .i64 (pk : Int)] 57) = x1 at *
  generalize t1.heap.size = y1 at *
  obtain ⟨u0, u1, u2, u3, u4, u5⟩ := HL5.out.t
  obtain ⟨e0, e1, e2⟩ := c3row HY1.out
  go_wp2_with fail
  ((with_reducible refine (HVU.out _ HL5.out.w).mono ?_); rintro e t2 ⟨rfl, q2⟩)
  have HLR := Lib.hid (show LrM w t2 ⟨dx, dy, dz⟩ ⟨vx, vy, vz⟩ y1 b (off + pi * 3) (off + pj * 3) pi pj pk pa pc from ⟨HL5.out.later q2, keepD HY1.out q2, HA1.out _ (HL5.out.w.nx q2), HA2.out _ (HL5.out.w.nx q2)⟩)
  clear u0 u1 u2 u3 u4 u5 e0 e1 e2 HL5 HY1 q2 HVU HA1 HA2
  obtain ⟨e0, e1, e2⟩ := c3row HLR.out.y
  obtain ⟨mn, hmn, hmn2⟩ : ∃ mn : Int, (∀ ts t W, (Builtin.min_ ts t #[.int .i64 (pi : Int), .int .i64 (pj : Int), .int .i64 (pk : Int)]).run Tryz.prog W = .ok (.int .i64 mn) W) ∧ ¬ mn < 0 :=
    ⟨_, fun ts t W => run_min_int3 W ts t _ _ _ _ _ _, by split <;> split <;> omega⟩
  obtain ⟨mx, hmx, hmx2⟩ : ∃ mx : Int, (∀ ts t W, (Builtin.max_ ts t #[.int .i64 (pi : Int), .int .i64 (pj : Int), .int .i64 (pk : Int)]).run Tryz.prog W = .ok (.int .i64 mx) W) ∧ ¬ (ls.length : Int) ≤ mx :=
    ⟨_, fun ts t W => run_max_int3 W ts t _ _ _ _ _ _, by split <;> split <;> omega⟩
  go_wp2_with fail
  clear e0 e1 e2 hmn hmx hmn2 hmx2
  obtain ⟨ax, ay, az⟩ := pa
  obtain ⟨cx, cy, cz⟩ := pc
  generalize hsb : Or.sub ⟨cx, cy, cz⟩ ⟨ax, ay, az⟩ = sb at *
  obtain ⟨sx, sy, sz⟩ := sb
  obtain ⟨f0, f1, f2, f3, f4, f5, f6, f7, f8, f9, f10, -⟩ := HLR.out.t
  have p1 : (0 : Int) ≤ (pi : Int) := by omega
  have p2 : (0 : Int) ≤ (pj : Int) := by omega
  clear hsb
  go_region_held3 (fun w' => w'.cell? ⟨w.heap.size + 1, 0, none⟩ = some (.int .i64 vx) ∧ w'.cell? ⟨w.heap.size + 1, 1, none⟩ = some (.int .i64 vy) ∧ w'.cell? ⟨w.heap.size + 1, 2, none⟩ = some (.int .i64 vz) ∧
    w'.cell? ⟨y1, 0, none⟩ = some (.int .i64 (pi : Int)) ∧ w'.cell? ⟨y1, 1, none⟩ = some (.int .i64 (pj : Int)) ∧
    w'.cell? ⟨b, off + pi * 3, none⟩ = some (.int .i64 ax) ∧ w'.cell? ⟨b, off + pi * 3 + 1, none⟩ = some (.int .i64 ay) ∧ w'.cell? ⟨b, off + pi * 3 + 2, none⟩ = some (.int .i64 az) ∧
    w'.cell? ⟨b, off + pj * 3, none⟩ = some (.int .i64 cx) ∧ w'.cell? ⟨b, off + pj * 3 + 1, none⟩ = some (.int .i64 cy) ∧ w'.cell? ⟨b, off + pj * 3 + 2, none⟩ = some (.int .i64 cz) ∧ LrM w w' ⟨dx, dy, dz⟩ ⟨vx, vy, vz⟩ y1 b (off + pi * 3) (off + pj * 3) pi pj pk ⟨ax, ay, az⟩ ⟨cx, cy, cz⟩)
    (first | (with_reducible exact (J1.later (below_al _ _)).t) | (with_reducible exact J1.t) | (with_reducible exact HLR.out.t) | (with_reducible exact HLR.out.drew.t))
    (first
      | (go_at_call 58; (with_reducible refine (HLS.out _).mono ?_); rintro e w8 ⟨rfl, hb8⟩; (first | (have J1 := HLR.out.drew.later hb8) | (have J1 := HLR.out.later hb8)))
      | fail)
  all_goals
    have HL9 := Lib.hid (J1.l.later (below_al w8 (.cells #[.int .i64 vx, .int .i64 vy, .int .i64 vz, .int .i64 sx, .int .i64 sy, .int .i64 sz] 52)))
    have HS9 := Lib.hid (show ∀ k, k < 2 → SpAt (w8.alloc (.cells #[.int .i64 vx, .int .i64 vy, .int .i64 vz, .int .i64 sx, .int .i64 sy, .int .i64 sz] 52)) w8.heap.size (k * 3) (WY k) from fun k hk => by rw [HW2.out k]; exact ways_new w8 ⟨vx, vy, vz⟩ ⟨sx, sy, sz⟩ _ k hk)
    clear f0 f1 f2 f3 f4 f5 f6 f7 f8 f9 f10 HLR J1 HW2 hb8 HLS i1 i2 i3 p1 p2
    generalize w8.alloc (.cells #[.int .i64 vx, .int .i64 vy, .int .i64 vz, .int .i64 sx, .int .i64 sy, .int .i64 sz] 52) = W9 at *
    generalize w8.heap.size = gs at *
    go_wp2_with fail
    go_loopw [105] (fun si wr => ∃ i : Nat, si = .int .i64 (i : Int) ∧ i ≤ 2 ∧ Hid (LsM w wr ⟨dx, dy, dz⟩ ⟨vx, vy, vz⟩) ∧ Hid (∀ k, k < 2 → SpAt wr gs (k * 3) (WY k))) (fun si _ => 2 - (intOf si).toNat)
    case atStart => exact ⟨0, rfl, by omega, HL9.out, HS9.out⟩
    case round =>
      clear HL9 HS9
      obtain ⟨i, rfl, hi, hL, hS⟩ := hrel
      by_cases hlt : i < 2
      · rename World => wr
        have z2 : (i : Int) < 2 := by omega
        have hway := hS.out i hlt
        have hvc := HVC.out i
        have hwl := HWL.out i
        have hS2 := fun k hk => (hS.out k hk)
        generalize Or.crs ⟨dx, dy, dz⟩ (WY i) = n at *
        generalize WY i = y at *
        obtain ⟨wx, wy, wz⟩ := y
        obtain ⟨nx, ny, nz⟩ := n
        have hA := below_al wr (.cells #[.int .i64 wx, .int .i64 wy, .int .i64 wz] 52)
        have HL2 := Lib.hid (hL.out.later hA)
        have HS2 := Lib.hid (show ∀ k, k < 2 → SpAt (wr.alloc (.cells #[.int .i64 wx, .int .i64 wy, .int .i64 wz] 52)) gs (k * 3) (WY k) from fun k hk => (hS2 k hk).later hA)
        obtain ⟨m0, m1, m2⟩ := c3row (heap_alloc_new wr (.cells #[.int .i64 wx, .int .i64 wy, .int .i64 wz] 52))
        obtain ⟨k0, k1, k2⟩ := hway.t
        obtain ⟨u0, u1, u2, -, -, -⟩ := HL2.out.t
        have hpz : ((nx == 0) && ((ny == 0) && (nz == 0))) = decide ((⟨nx, ny, nz⟩ : Or.P3) = ⟨0, 0, 0⟩) := sp_beq ⟨nx, ny, nz⟩ ⟨0, 0, 0⟩
        have pe := fun W => sp_eql nx ny nz 0 0 0 W
        rw [hpz] at pe
        have HV2 := Lib.hid hvc
        have HWL2 := Lib.hid hwl
        clear hvc hwl hS2 hway hA hL hS hpz
        by_cases hn0 : (⟨nx, ny, nz⟩ : Or.P3) = ⟨0, 0, 0⟩
        · rw [decide_eq_true hn0] at pe
          clear hn0 HWL2
          go_wp2_with fail
          ((with_reducible refine (HV2.out _).mono ?_); rintro e r1 ⟨rfl, g1⟩)
          have a1 := below_al r1 (.cells #[.int .i64 nx, .int .i64 ny, .int .i64 nz] 52)
          have HL3 := Lib.hid ((HL2.out.later g1).later a1)
          have HS3 := Lib.hid (show ∀ k, k < 2 → SpAt (r1.alloc (.cells #[.int .i64 nx, .int .i64 ny, .int .i64 nz] 52)) gs (k * 3) (WY k) from fun k hk => ((HS2.out k hk).later g1).later a1)
          have HN3 := Lib.hid (heap_alloc_new r1 (.cells #[.int .i64 nx, .int .i64 ny, .int .i64 nz] 52))
          clear g1 a1 HL2 HS2 m0 m1 m2 k0 k1 k2 u0 u1 u2 HV2
          obtain ⟨m0, m1, m2⟩ := c3row HN3.out
          go_wp2
          go_roundw
          case rel => exact ⟨i + 1, by go_num, by omega, HL3.out, HS3.out⟩
          case measure => simp [intOf]; omega
        · rw [decide_eq_false hn0] at pe
          have hrs := HRS.out ⟨nx, ny, nz⟩
          cases hin : inS ⟨nx, ny, nz⟩ with
          | false =>
            rw [hin] at hrs
            have HRS2 := Lib.hid hrs
            clear hrs hin hn0 HWL2
            go_wp2_with fail
            ((with_reducible refine (HV2.out _).mono ?_); rintro e r1 ⟨rfl, g1⟩)
            have a1 := below_al r1 (.cells #[.int .i64 nx, .int .i64 ny, .int .i64 nz] 52)
            have HL3 := Lib.hid ((HL2.out.later g1).later a1)
            have HS3 := Lib.hid (show ∀ k, k < 2 → SpAt (r1.alloc (.cells #[.int .i64 nx, .int .i64 ny, .int .i64 nz] 52)) gs (k * 3) (WY k) from fun k hk => ((HS2.out k hk).later g1).later a1)
            have HN3 := Lib.hid (heap_alloc_new r1 (.cells #[.int .i64 nx, .int .i64 ny, .int .i64 nz] 52))
            clear g1 a1 HL2 HS2 m0 m1 m2 k0 k1 k2 u0 u1 u2 HV2
            obtain ⟨m0, m1, m2⟩ := c3row HN3.out
            go_wp2_with fail
            ((with_reducible refine (HRS2.out _).mono ?_); rintro e r2 ⟨rfl, g2⟩)
            have HL4 := Lib.hid (HL3.out.later g2)
            have HS4 := Lib.hid (show ∀ k, k < 2 → SpAt r2 gs (k * 3) (WY k) from fun k hk => (HS3.out k hk).later g2)
            have HN4 := Lib.hid (keepD HN3.out g2)
            clear g2 HL3 HS3 HN3 m0 m1 m2 HRS2
            go_wp2
            go_roundw
            case rel => exact ⟨i + 1, by go_num, by omega, HL4.out, HS4.out⟩
            case measure => simp [intOf]; omega
          | true =>
            rw [hin] at hrs
            have HRS2 := Lib.hid hrs
            obtain ⟨a, b2, hpa⟩ := HPA.out _ (HHN.out _ hin hn0)
            have HP2 := Lib.hid hpa
            have HC2 := Lib.hid (HCM.out _ hin hn0)
            obtain ⟨w1', w2'⟩ := HWL2.out hn0
            generalize Or.par ls ⟨nx, ny, nz⟩ = PQ at *
            generalize cmpQ (Or.wid ls ⟨dx, dy, dz⟩) PQ = cm at *
            generalize rtoa PQ = TP at *
            have hcm2 : ¬ (i : Int) = 1 ∨ cm = 0 := by
              by_cases q : i = 0
              · exact .inl (by omega)
              · exact .inr (w2' q)
            have HCM2 := Lib.hid hcm2
            clear hrs hin hn0 HWL2 hpa w2' hcm2
            go_wp2_with fail
            ((with_reducible refine (HV2.out _).mono ?_); rintro e r1 ⟨rfl, g1⟩)
            have a1 := below_al r1 (.cells #[.int .i64 nx, .int .i64 ny, .int .i64 nz] 52)
            have HL3 := Lib.hid ((HL2.out.later g1).later a1)
            have HS3 := Lib.hid (show ∀ k, k < 2 → SpAt (r1.alloc (.cells #[.int .i64 nx, .int .i64 ny, .int .i64 nz] 52)) gs (k * 3) (WY k) from fun k hk => ((HS2.out k hk).later g1).later a1)
            have HN3 := Lib.hid (heap_alloc_new r1 (.cells #[.int .i64 nx, .int .i64 ny, .int .i64 nz] 52))
            clear g1 a1 HL2 HS2 m0 m1 m2 k0 k1 k2 u0 u1 u2 HV2
            obtain ⟨m0, m1, m2⟩ := c3row HN3.out
            go_wp2_with fail
            ((with_reducible refine (HRS2.out _).mono ?_); rintro e r2 ⟨rfl, g2⟩)
            have HL4 := Lib.hid (HL3.out.later g2)
            have HS4 := Lib.hid (show ∀ k, k < 2 → SpAt r2 gs (k * 3) (WY k) from fun k hk => (HS3.out k hk).later g2)
            have HN4 := Lib.hid (keepD HN3.out g2)
            clear g2 HL3 HS3 HN3 m0 m1 m2 HRS2
            obtain ⟨u0, u1, u2⟩ := c3row HN4.out
            go_wp2_with fail
            ((with_reducible refine (HP2.out _ HL4.out.w).mono ?_); rintro e r3 ⟨rfl, g3⟩)
            have a3 := below_al r3 (.cells #[.int .i64 (a : Int), .int .i64 (b2 : Int)] 44)
            have HL5 := Lib.hid ((HL4.out.later g3).later a3)
            have HS5 := Lib.hid (show ∀ k, k < 2 → SpAt (r3.alloc (.cells #[.int .i64 (a : Int), .int .i64 (b2 : Int)] 44)) gs (k * 3) (WY k) from fun k hk => ((HS4.out k hk).later g3).later a3)
            clear g3 a3 u0 u1 u2 HL4 HS4 HN4 HP2
            go_upto_region 13 with fail
            generalize r3.alloc (.cells #[.int .i64 (a : Int), .int .i64 (b2 : Int)] 44) = r4 at *
            go_wp2_with fail
            ((with_reducible refine (HC2.out _ HL5.out.w).mono ?_); rintro e r5 ⟨rfl, g5⟩)
            have HL6 := Lib.hid (HL5.out.later g5)
            have HS6 := Lib.hid (show ∀ k, k < 2 → SpAt r5 gs (k * 3) (WY k) from fun k hk => (HS5.out k hk).later g5)
            clear g5 HL5 HS5 HC2
            have w3' : ¬ 0 < cm := by omega
            rcases HCM2.out with q | q
            · have q2 : ((i : Int) == 1) = false := beq_eq_false_iff_ne.2 q
              go_wp2
              go_roundw
              case rel => exact ⟨i + 1, by go_num, by omega, HL6.out, HS6.out⟩
              case measure => simp [intOf]; omega
            · have q2 : (cm != 0) = false := by rw [q]; rfl
              go_wp2
              all_goals
                go_roundw
                case rel => exact ⟨i + 1, by go_num, by omega, HL6.out, HS6.out⟩
                case measure => simp [intOf]; omega
      · obtain rfl : i = 2 := by omega
        have hB := hL.out.w
        go_wp2_with fail
        ((with_reducible refine (HAW.out _ hB).mono ?_); rintro e wz ⟨rfl, hbz⟩)
        have hBz := hB.nx hbz
        go_wp2
        go_ret
        exact ⟨rfl, hBz⟩
set_option maxRecDepth 100000 in
theorem least_lawO {u : Value} (ls : List Or.P3) (d v : Or.P3) (w : World) (hg : Good w) (S : SlX w u ls) (hln : ls.length ≤ 140737488355328) :
    Calls Tryz.prog 11 #[u, spV d, spV v] w (Ret w (.bool true)) := by
  by_cases ho : outL ls d v
  · exact least_out ls d v w hg S hln ho
  · exact least_main ls d v w hg S hln ho
end Go.Proofs.Wk
