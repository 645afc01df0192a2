/- POSITION: cases and torsors checked, deviations, in the program. -/
import Derived.Test.YtdpjkfkmlaphhaaGreatDoorQA
import Derived.Test.YtdpjkfkmlaphhaaGreatDoorPG
import Derived.Test.YtdpjkfkmlaphhaaGreatDoorPH
import Derived.Deep.RegionHeld3
namespace Go.Proofs.Wk
open Go.RowKit Mt Po

set_option maxRecDepth 100000 in
set_option maxHeartbeats 8000000 in
theorem poCheck_c (c : Ca) (fv dv sv : Value) (ds : List Dt) (ls : List Sp) (w : World) (S : CaS w c fv dv sv ds ls) : Calls Tryz.prog 96 #[caV c fv dv sv] w (Ret w (.int .i64 (caE c.f c.x c.b ds ls))) := by
  have HF := Lib.hid (fun W (h : Below w.heap.size w W) => frCheck_c (fv := fv) c.f c.x ds W (S.dt.later h) S.nm)
  have HS := Lib.hid (fun W (h : Below w.heap.size w W) => vCheckS_c ls W (S.sp.later h) S.ln)
  have hJ := On.new w (caC c fv dv sv).toList 34
  obtain ⟨E, hE⟩ : ∃ E, caE c.f c.x c.b ds ls = E := ⟨_, rfl⟩
  rw [hE]
  unfold caE at hE
  generalize frE c.f c.x ds = FE at *
  generalize Po.chkS ls = SE at *
  obtain ⟨⟨nm, kind, axis, ⟨ax, ay, az⟩, lo, fhi⟩, ⟨xk, disc, tol, mat⟩, b0⟩ := c
  simp only at hE hJ
  have HE := Lib.hid hE
  clear hE S
  go_enter Tryz.func96, Tryz.ntmps96
  go_upto_region 1 with fail
  generalize hW0 : w.alloc (.cells #[.string ⟨nm.toArray⟩, .int .i64 kind, .int .i64 axis, .int .i64 ax, .int .i64 ay, .int .i64 az, .int .i64 lo, .int .i64 fhi, fv, .int .i64 xk, .bool disc, .int .i64 tol, .int .i64 mat, dv, sv, .int .i64 b0] 34) = W0 at *
  clear hW0
  obtain ⟨c0, c1, c2, c3, c4, c5, c6, c7, c8, c9, ca, cb, cc, cd, ce, cf⟩ := c16row hJ.a
  go_wp2_with fail
  ((with_reducible refine (HF.out _ hJ.w).mono ?_); rintro e w1 ⟨rfl, hb1⟩)
  have hJ1 := hJ.later hb1
  have hw1 := hJ1.w
  clear c0 c1 c2 c3 c4 c5 c6 c7 c8 c9 ca cb cc cd ce cf hJ hb1 HF
  by_cases hF : FE = 0
  rotate_left
  · obtain rfl : FE = E := by have := HE.out; rwa [if_pos hF] at this
    have h3 := bne_ne hF
    clear HE hJ1
    go_wp2
    go_ret
    exact ⟨rfl, hw1⟩
  subst hF
  replace HE := HE.out
  rw [if_neg (show ¬ (0 : Int) ≠ 0 from by simp)] at HE
  obtain ⟨c0, c1, c2, c3, c4, c5, c6, c7, c8, c9, ca, cb, cc, cd, ce, cf⟩ := c16row hJ1.a
  clear c0 c1 c2 c3 c4 c5 c6 c7 c8 ca cb cc cd hJ1
  by_cases hk : xk = 8
  rotate_left
  · obtain rfl : 1 = E := by rwa [if_pos hk] at HE
    have h3 : (xk != 8) = true := bne_iff_ne.2 hk
    clear HE
    go_wp2
    go_ret
    exact ⟨rfl, hw1⟩
  subst hk
  rw [if_neg (show ¬ (8 : Int) ≠ 8 from by simp)] at HE
  by_cases hb : b0 < 0 ∨ 100000 < b0
  · obtain rfl : 2 = E := by rwa [if_pos hb] at HE
    clear HE
    rcases (by omega : b0 < 0 ∨ (¬ b0 < 0 ∧ 100000 < b0)) with y | ⟨y, y1⟩
    all_goals
      clear hb
      go_wp2
      go_ret
      exact ⟨rfl, hw1⟩
  rw [if_neg hb] at HE
  obtain ⟨y0, y1⟩ : ¬ b0 < 0 ∧ ¬ 100000 < b0 := ⟨by omega, by omega⟩
  subst HE
  clear hb
  go_wp2_with fail
  ((with_reducible refine (HS.out _ hw1).mono ?_); rintro e w2 ⟨rfl, hb2⟩)
  have hw2 := hw1.nx hb2
  clear c9 ce cf
  go_wp2
  go_ret
  exact ⟨rfl, hw2⟩
/-- The error of a case with a torsor. -/
def gvE (c : Ca) (tt : TT) (ds : List Dt) (ls : List Sp) : Int := if caE c.f c.x c.b ds ls ≠ 0 then caE c.f c.x c.b ds ls else ttE tt
set_option maxRecDepth 100000 in
set_option maxHeartbeats 4000000 in
theorem given_c (c : Ca) (fv dv sv : Value) (tt : TT) (ds : List Dt) (ls : List Sp) (w : World) (hg : Good w) (S : CaS w c fv dv sv ds ls) (hl : ∀ l ∈ tt.l, l.length ≤ 140737488355328) : Calls Tryz.prog 51 #[caV c fv dv sv, ttV tt] w (Ret w (.int .i64 (gvE c tt ds ls))) := by
  have HC := Lib.hid (fun W (h : Below w.heap.size w W) => poCheck_c c fv dv sv ds ls W (S.later h))
  have HT := Lib.hid (fun W (h : Below w.heap.size w W) => torCheck_c tt W (hg.later h) hl)
  unfold gvE
  have hJ := Tw.new w (caC c fv dv sv).toList (ttC tt).toList 34 38
  generalize caE c.f c.x c.b ds ls = CE at *
  generalize ttE tt = TE at *
  obtain ⟨E, hE⟩ : ∃ E, (if CE ≠ 0 then CE else TE) = E := ⟨_, rfl⟩
  rw [hE]
  have HE := Lib.hid hE
  obtain ⟨⟨nm, kind, axis, ⟨ax, ay, az⟩, lo, fhi⟩, ⟨xk, disc, tol, mat⟩, b0⟩ := c
  simp only at hJ
  clear hE S hg hl
  go_enter Tryz.func51, Tryz.ntmps51
  go_upto_region 1 with fail
  generalize hW0 : (w.alloc (.cells #[.string ⟨nm.toArray⟩, .int .i64 kind, .int .i64 axis, .int .i64 ax, .int .i64 ay, .int .i64 az, .int .i64 lo, .int .i64 fhi, fv, .int .i64 xk, .bool disc, .int .i64 tol, .int .i64 mat, dv, sv, .int .i64 b0] 34)).alloc (.cells (ttC tt) 38) = W0 at *
  clear hW0
  generalize w.heap.size + 1 = gt at *
  obtain ⟨c0, c1, c2, c3, c4, c5, c6, c7, c8, c9, ca, cb, cc, cd, ce, cf⟩ := c16row hJ.a
  go_wp2_with fail
  ((with_reducible refine (HC.out _ hJ.w).mono ?_); rintro e w1 ⟨rfl, hb1⟩)
  have hJ1 := hJ.later hb1
  have hw1 := hJ1.w
  clear c0 c1 c2 c3 c4 c5 c6 c7 c8 c9 ca cb cc cd ce cf hJ hb1 HC
  by_cases hF : CE = 0
  rotate_left
  · obtain rfl : CE = E := by have := HE.out; rwa [if_pos hF] at this
    have h3 := bne_ne hF
    clear HE hJ1
    go_wp2
    go_ret
    exact ⟨rfl, hw1⟩
  subst hF
  obtain rfl : TE = E := by have := HE.out; rwa [if_neg (by simp)] at this
  obtain ⟨t0, t1, t2, t3, t4, t5⟩ := c6row hJ1.b
  clear HE hJ1
  go_wp2_with fail
  ((with_reducible refine (HT.out _ hw1).mono ?_); rintro e w2 ⟨rfl, hb2⟩)
  have hw2 := hw1.nx hb2
  clear t0 t1 t2 t3 t4 t5
  go_wp2
  go_ret
  exact ⟨rfl, hw2⟩
end Go.Proofs.Wk
/- POSITION: deviations, in the program. -/
namespace Go.Proofs.Wk
open Go.RowKit Mt Po

set_option maxRecDepth 100000 in
set_option maxHeartbeats 4000000 in
theorem dev_err (c : Ca) (fv dv sv : Value) (tt : TT) (E n : Int) (hE : E ≠ 0) (w : World) (HGV : ∀ W, Below w.heap.size w W → Calls Tryz.prog 51 #[caV c fv dv sv, ttV tt] W (Ret W (.int .i64 E))) :
    Calls Tryz.prog 14 #[caV c fv dv sv, ttV tt, .int .i64 n] w (Ret w (.tuple #[.slice none 0 0, .int .i64 E])) := by
  have HG := Lib.hid HGV
  have h3 := bne_ne hE
  have hJ := Tw.new w (caC c fv dv sv).toList (ttC tt).toList 34 38
  obtain ⟨⟨nm, kind, axis, ⟨ax, ay, az⟩, lo, fhi⟩, ⟨xk, disc, tol, mat⟩, b0⟩ := c
  simp only at hJ
  clear HGV hE
  go_enter Tryz.func14, Tryz.ntmps14
  go_upto_region 1 with fail
  generalize hW0 : (w.alloc (.cells #[.string ⟨nm.toArray⟩, .int .i64 kind, .int .i64 axis, .int .i64 ax, .int .i64 ay, .int .i64 az, .int .i64 lo, .int .i64 fhi, fv, .int .i64 xk, .bool disc, .int .i64 tol, .int .i64 mat, dv, sv, .int .i64 b0] 34)).alloc (.cells (ttC tt) 38) = W0 at *
  clear hW0
  generalize w.heap.size + 1 = gt at *
  obtain ⟨c0, c1, c2, c3, c4, c5, c6, c7, c8, c9, ca, cb, cc, cd, ce, cf⟩ := c16row hJ.a
  obtain ⟨t0, t1, t2, t3, t4, t5⟩ := c6row hJ.b
  go_wp2_with fail
  ((with_reducible refine (HG.out _ hJ.w).mono ?_); rintro e w1 ⟨rfl, hb1⟩)
  have hJ1 := hJ.later hb1
  have hw := hJ1.w
  clear c0 c1 c2 c3 c4 c5 c6 c7 c8 c9 ca cb cc cd ce cf t0 t1 t2 t3 t4 t5 hJ hb1 HG
  clear hJ1
  go_wp2
  go_ret2
  exact ⟨rfl, hw⟩
set_option maxRecDepth 100000 in
set_option maxHeartbeats 4000000 in
theorem dev_out (c : Ca) (fv dv sv : Value) (tt : TT) (ls : List Sp) (n : Int) (hn : n < 0 ∨ (ls.length : Int) ≤ n) (w : World) (S : SlX w sv ls) (HGV : ∀ W, Below w.heap.size w W → Calls Tryz.prog 51 #[caV c fv dv sv, ttV tt] W (Ret W (.int .i64 0))) :
    Calls Tryz.prog 14 #[caV c fv dv sv, ttV tt, .int .i64 n] w (Ret w (.tuple #[.slice none 0 0, .int .i64 2])) := by
  have HG := Lib.hid HGV
  obtain ⟨sa, cap, rfl⟩ := S.lenS
  generalize ls.length = m at *
  have hJ := Tw.new w (caC c fv dv (.slice sa m cap)).toList (ttC tt).toList 34 38
  obtain ⟨⟨nm, kind, axis, ⟨ax, ay, az⟩, lo, fhi⟩, ⟨xk, disc, tol, mat⟩, b0⟩ := c
  simp only at hJ
  clear HGV S
  go_enter Tryz.func14, Tryz.ntmps14
  go_upto_region 1 with fail
  generalize hW0 : (w.alloc (.cells #[.string ⟨nm.toArray⟩, .int .i64 kind, .int .i64 axis, .int .i64 ax, .int .i64 ay, .int .i64 az, .int .i64 lo, .int .i64 fhi, fv, .int .i64 xk, .bool disc, .int .i64 tol, .int .i64 mat, dv, .slice sa m cap, .int .i64 b0] 34)).alloc (.cells (ttC tt) 38) = W0 at *
  clear hW0
  generalize w.heap.size + 1 = gt at *
  obtain ⟨c0, c1, c2, c3, c4, c5, c6, c7, c8, c9, ca, cb, cc, cd, ce, cf⟩ := c16row hJ.a
  obtain ⟨t0, t1, t2, t3, t4, t5⟩ := c6row hJ.b
  go_wp2_with fail
  ((with_reducible refine (HG.out _ hJ.w).mono ?_); rintro e w1 ⟨rfl, hb1⟩)
  have hJ1 := hJ.later hb1
  have hw := hJ1.w
  clear c0 c1 c2 c3 c4 c5 c6 c7 c8 c9 ca cb cc cd ce cf t0 t1 t2 t3 t4 t5 hJ hb1 HG
  obtain ⟨c0, c1, c2, c3, c4, c5, c6, c7, c8, c9, ca, cb, cc, cd, ce, cf⟩ := c16row hJ1.a
  clear c0 c1 c2 c3 c4 c5 c6 c7 c8 c9 ca cb cc cd cf hJ1
  rcases (by omega : n < 0 ∨ (¬ n < 0 ∧ (m : Int) ≤ n)) with y | ⟨y, y1⟩
  all_goals
    clear hn
    go_wp2
    go_ret2
    exact ⟨rfl, hw⟩
set_option maxRecDepth 100000 in
set_option maxHeartbeats 16000000 in
theorem dev_ok (c : Ca) (fv dv sv : Value) (t : TQ) (ls : List Sp) (i : Nat) (w : World) (hg : Good w) (hk : OkC c t) (S : SlX w sv ls) (hi : i < ls.length) (hin : ∀ p ∈ ls, InP p) (HGV : ∀ W, Below w.heap.size w W → Calls Tryz.prog 51 #[caV c fv dv sv, ttV (tqT t)] W (Ret W (.int .i64 0))) :
    Calls Tryz.prog 14 #[caV c fv dv sv, ttV (tqT t), .int .i64 (i : Int)] w (OffR w ((dvC c t (Po.at_ ls i)).map rtoa)) := by
  have HG := Lib.hid HGV
  have HOF := Lib.hid (fun W (h : Below w.heap.size w W) => off_c c fv dv sv t (Po.at_ ls i) W (hg.later h) hk.k hk.a hk.p hk.t (hin _ (Po.at_mem hi)))
  change Hid (∀ W (h : Below w.heap.size w W), Calls Tryz.prog 52 #[caV c fv dv sv, ttV (tqT t), spV (Po.at_ ls i)] W (OffR W ((dvC c t (Po.at_ ls i)).map rtoa))) at HOF
  have hJ := Tw.new w (caC c fv dv sv).toList (ttC (tqT t)).toList 34 38
  rcases S with ⟨a, cp, -, h0⟩ | ⟨b, off, cap, rfl, hR, hl⟩
  · rw [h0] at hi; exact absurd hi (by simp)
  have HR := Lib.hid (fun (W : World) (h : Below w.heap.size w W) => (hR.later h hl).sp hi)
  generalize dvC c t (Po.at_ ls i) = dvl at *
  generalize Po.at_ ls i = p at *
  obtain ⟨px, py, pz⟩ := p
  simp only at HR HOF
  generalize ls.length = m at *
  clear hR hl hk hin HGV hg
  generalize tqT t = tt at *
  obtain ⟨⟨nm, kind, axis, ⟨ax, ay, az⟩, lo, fhi⟩, ⟨xk, disc, tol, mat⟩, b0⟩ := c
  obtain ⟨a0, a1, a2, q0, q1, q2⟩ := tt
  simp only at hJ HOF HG ⊢
  go_enter Tryz.func14, Tryz.ntmps14
  go_upto_region 1 with fail
  generalize hW0 : (w.alloc (.cells #[.string ⟨nm.toArray⟩, .int .i64 kind, .int .i64 axis, .int .i64 ax, .int .i64 ay, .int .i64 az, .int .i64 lo, .int .i64 fhi, fv, .int .i64 xk, .bool disc, .int .i64 tol, .int .i64 mat, dv, .slice (some ⟨b, off, none⟩) m cap, .int .i64 b0] 34)).alloc (.cells #[.string ⟨a0.toArray⟩, .string ⟨a1.toArray⟩, .string ⟨a2.toArray⟩, .string ⟨q0.toArray⟩, .string ⟨q1.toArray⟩, .string ⟨q2.toArray⟩] 38) = W0 at *
  clear hW0
  generalize w.heap.size + 1 = gt at *
  obtain ⟨c0, c1, c2, c3, c4, c5, c6, c7, c8, c9, ca, cb, cc, cd, ce, cf⟩ := c16row hJ.a
  obtain ⟨t0, t1, t2, t3, t4, t5⟩ := c6row hJ.b
  go_wp2_with fail
  ((with_reducible refine (HG.out _ hJ.w).mono ?_); rintro e w1 ⟨rfl, hb1⟩)
  have hJ1 := hJ.later hb1
  have hw := hJ1.w
  clear c0 c1 c2 c3 c4 c5 c6 c7 c8 c9 ca cb cc cd ce cf t0 t1 t2 t3 t4 t5 hJ hb1 HG
  have HJ := Lib.hid hJ1
  clear hJ1
  have j0 : (i : Int) < (m : Int) := by omega
  have j1 : (0 : Int) ≤ (i : Int) := by omega
  have j2 : ¬ ((i : Int) < 0) := by omega
  have j3 : ¬ ((m : Int) ≤ (i : Int)) := by omega
  have hB : Below w1.heap.size w1 w1 := Below.refl _ _
  have HALL := Lib.hid (fun (W : World) (h : Below w1.heap.size w1 W) => by
    have hJ := HJ.out.later h
    obtain ⟨c0, c1, c2, c3, c4, c5, c6, c7, c8, c9, ca, cb, cc, cd, ce, cf⟩ := c16row hJ.a
    obtain ⟨t0, t1, t2, t3, t4, t5⟩ := c6row hJ.b
    obtain ⟨k0, k1, k2⟩ := HR.out _ hJ.w
    exact (⟨c0, c1, c2, c3, c4, c5, c6, c7, c8, c9, ca, cb, cc, cd, ce, cf, t0, t1, t2, t3, t4, t5, k0, k1, k2, h⟩ : W.cell? ⟨w.heap.size, 0, none⟩ = some (.string ⟨nm.toArray⟩) ∧ W.cell? ⟨w.heap.size, 1, none⟩ = some (.int .i64 kind) ∧ W.cell? ⟨w.heap.size, 2, none⟩ = some (.int .i64 axis) ∧ W.cell? ⟨w.heap.size, 3, none⟩ = some (.int .i64 ax) ∧ W.cell? ⟨w.heap.size, 4, none⟩ = some (.int .i64 ay) ∧ W.cell? ⟨w.heap.size, 5, none⟩ = some (.int .i64 az) ∧ W.cell? ⟨w.heap.size, 6, none⟩ = some (.int .i64 lo) ∧ W.cell? ⟨w.heap.size, 7, none⟩ = some (.int .i64 fhi) ∧ W.cell? ⟨w.heap.size, 8, none⟩ = some (fv) ∧ W.cell? ⟨w.heap.size, 9, none⟩ = some (.int .i64 xk) ∧ W.cell? ⟨w.heap.size, 10, none⟩ = some (.bool disc) ∧ W.cell? ⟨w.heap.size, 11, none⟩ = some (.int .i64 tol) ∧ W.cell? ⟨w.heap.size, 12, none⟩ = some (.int .i64 mat) ∧ W.cell? ⟨w.heap.size, 13, none⟩ = some (dv) ∧ W.cell? ⟨w.heap.size, 14, none⟩ = some (.slice (some ⟨b, off, none⟩) m cap) ∧ W.cell? ⟨w.heap.size, 15, none⟩ = some (.int .i64 b0) ∧ W.cell? ⟨gt, 0, none⟩ = some (.string ⟨a0.toArray⟩) ∧ W.cell? ⟨gt, 1, none⟩ = some (.string ⟨a1.toArray⟩) ∧ W.cell? ⟨gt, 2, none⟩ = some (.string ⟨a2.toArray⟩) ∧ W.cell? ⟨gt, 3, none⟩ = some (.string ⟨q0.toArray⟩) ∧ W.cell? ⟨gt, 4, none⟩ = some (.string ⟨q1.toArray⟩) ∧ W.cell? ⟨gt, 5, none⟩ = some (.string ⟨q2.toArray⟩) ∧ W.cell? ⟨b, off + i * 3, none⟩ = some (.int .i64 px) ∧ W.cell? ⟨b, off + i * 3 + 1, none⟩ = some (.int .i64 py) ∧ W.cell? ⟨b, off + i * 3 + 2, none⟩ = some (.int .i64 pz) ∧ Below w1.heap.size w1 W))
  have ce := (c16row HJ.out.a).2.2.2.2.2.2.2.2.2.2.2.2.2.2.1
  go_upto_region 6 with fail
  clear ce
  go_region_held3 (fun W => W.cell? ⟨w.heap.size, 0, none⟩ = some (.string ⟨nm.toArray⟩) ∧ W.cell? ⟨w.heap.size, 1, none⟩ = some (.int .i64 kind) ∧ W.cell? ⟨w.heap.size, 2, none⟩ = some (.int .i64 axis) ∧ W.cell? ⟨w.heap.size, 3, none⟩ = some (.int .i64 ax) ∧ W.cell? ⟨w.heap.size, 4, none⟩ = some (.int .i64 ay) ∧ W.cell? ⟨w.heap.size, 5, none⟩ = some (.int .i64 az) ∧ W.cell? ⟨w.heap.size, 6, none⟩ = some (.int .i64 lo) ∧ W.cell? ⟨w.heap.size, 7, none⟩ = some (.int .i64 fhi) ∧ W.cell? ⟨w.heap.size, 8, none⟩ = some (fv) ∧ W.cell? ⟨w.heap.size, 9, none⟩ = some (.int .i64 xk) ∧ W.cell? ⟨w.heap.size, 10, none⟩ = some (.bool disc) ∧ W.cell? ⟨w.heap.size, 11, none⟩ = some (.int .i64 tol) ∧ W.cell? ⟨w.heap.size, 12, none⟩ = some (.int .i64 mat) ∧ W.cell? ⟨w.heap.size, 13, none⟩ = some (dv) ∧ W.cell? ⟨w.heap.size, 14, none⟩ = some (.slice (some ⟨b, off, none⟩) m cap) ∧ W.cell? ⟨w.heap.size, 15, none⟩ = some (.int .i64 b0) ∧ W.cell? ⟨gt, 0, none⟩ = some (.string ⟨a0.toArray⟩) ∧ W.cell? ⟨gt, 1, none⟩ = some (.string ⟨a1.toArray⟩) ∧ W.cell? ⟨gt, 2, none⟩ = some (.string ⟨a2.toArray⟩) ∧ W.cell? ⟨gt, 3, none⟩ = some (.string ⟨q0.toArray⟩) ∧ W.cell? ⟨gt, 4, none⟩ = some (.string ⟨q1.toArray⟩) ∧ W.cell? ⟨gt, 5, none⟩ = some (.string ⟨q2.toArray⟩) ∧ W.cell? ⟨b, off + i * 3, none⟩ = some (.int .i64 px) ∧ W.cell? ⟨b, off + i * 3 + 1, none⟩ = some (.int .i64 py) ∧ W.cell? ⟨b, off + i * 3 + 2, none⟩ = some (.int .i64 pz) ∧ Below w1.heap.size w1 W)
    (first | with_reducible exact HALL.out _ B1 | with_reducible exact HALL.out _ hB | with_reducible exact HALL.out _ hB.drew)
    (first
      | (go_at_call 52; (first | (with_reducible refine (HOF.out _ (hw.nx hB.drew)).mono ?_) | (with_reducible refine (HOF.out _ hw).mono ?_)); rintro e v1 ⟨v, rfl, hS1, hb1⟩; (first | (with_reducible have B1 := hB.drew.nx hb1) | (with_reducible have B1 := hB.nx hb1)))
      | fail)
  all_goals
    have HB := Lib.hid (hw.nx B1)
    clear hb1 B1 hB
    go_wp2
    go_ret2
    exact ⟨_, rfl, hS1, HB.out⟩
end Go.Proofs.Wk
