/- POSITION, IN THE REFERENCE: the worst point, zones, the width that is needed. -/
import Derived.Test.YtphbikfkeinmnaaGreatDoorQE
import Derived.Test.YtphbikfkeinmnaaGreatDoorPG
namespace Go.Proofs.Wk
open Go.RowKit Mt Po

set_option maxRecDepth 100000 in
set_option maxHeartbeats 4000000 in
theorem rworst_err (c : Ca) (fv dv sv : Value) (tt : TT) (E : Int) (hE : E ≠ 0) (w : World) (HGV : ∀ W, Below w.heap.size w W → Calls Tryz.prog 46 #[caV c fv dv sv, ttV tt] W (Ret W (.int .i64 E))) :
    Calls Tryz.prog 15 #[caV c fv dv sv, ttV tt] w (Ret w (wst3 [] 0 E)) := by
  have HG := Lib.hid HGV
  have h3 := bne_ne hE
  have hJ := Tw.new w (caC c fv dv sv).toList (ttC tt).toList 40 38
  obtain ⟨⟨nm, kind, axis, ⟨ax, ay, az⟩, lo, fhi⟩, ⟨xk, disc, tol, mat⟩, b0⟩ := c
  simp only at hJ
  clear HGV hE
  go_enter Tryz.func15, Tryz.ntmps15
  go_upto_region 1 with fail
  generalize hW0 : (w.alloc (.cells #[.string ⟨nm.toArray⟩, .int .i64 kind, .int .i64 axis, .int .i64 ax, .int .i64 ay, .int .i64 az, .int .i64 lo, .int .i64 fhi, fv, .int .i64 xk, .bool disc, .int .i64 tol, .int .i64 mat, dv, sv, .int .i64 b0] 40)).alloc (.cells (ttC tt) 38) = W0 at *
  clear hW0
  generalize w.heap.size + 1 = gt at *
  obtain ⟨c0, c1, c2, c3, c4, c5, c6, c7, c8, c9, ca, cb, cc, cd, ce, cf⟩ := c16row hJ.a
  obtain ⟨t0, t1, t2, t3, t4, t5⟩ := c6row hJ.b
  go_wp2_with fail
  ((with_reducible refine (HG.out _ hJ.w).mono ?_); rintro e w1 ⟨rfl, hb1⟩)
  have hw := hJ.w.nx hb1
  clear c0 c1 c2 c3 c4 c5 c6 c7 c8 c9 ca cb cc cd ce cf t0 t1 t2 t3 t4 t5 hJ hb1 HG
  go_wp2
  go_ret3
  exact ⟨rfl, hw⟩
set_option maxRecDepth 100000 in
set_option maxHeartbeats 4000000 in
theorem rworst_nil (c : Ca) (fv dv sv : Value) (tt : TT) (w : World) (S : SlX w sv ([] : List Sp)) (HGV : ∀ W, Below w.heap.size w W → Calls Tryz.prog 46 #[caV c fv dv sv, ttV tt] W (Ret W (.int .i64 0))) :
    Calls Tryz.prog 15 #[caV c fv dv sv, ttV tt] w (Ret w (wst3 [] 0 13)) := by
  have HG := Lib.hid HGV
  obtain ⟨sa, cap, rfl⟩ := S.lenS
  have hJ := Tw.new w (caC c fv dv (.slice sa 0 cap)).toList (ttC tt).toList 40 38
  simp only [List.length_nil] at HG ⊢
  obtain ⟨⟨nm, kind, axis, ⟨ax, ay, az⟩, lo, fhi⟩, ⟨xk, disc, tol, mat⟩, b0⟩ := c
  simp only at hJ
  clear HGV S
  go_enter Tryz.func15, Tryz.ntmps15
  go_upto_region 1 with fail
  generalize hW0 : (w.alloc (.cells #[.string ⟨nm.toArray⟩, .int .i64 kind, .int .i64 axis, .int .i64 ax, .int .i64 ay, .int .i64 az, .int .i64 lo, .int .i64 fhi, fv, .int .i64 xk, .bool disc, .int .i64 tol, .int .i64 mat, dv, .slice sa 0 cap, .int .i64 b0] 40)).alloc (.cells (ttC tt) 38) = W0 at *
  clear hW0
  generalize w.heap.size + 1 = gt at *
  obtain ⟨c0, c1, c2, c3, c4, c5, c6, c7, c8, c9, ca, cb, cc, cd, ce, cf⟩ := c16row hJ.a
  obtain ⟨t0, t1, t2, t3, t4, t5⟩ := c6row hJ.b
  go_wp2_with fail
  ((with_reducible refine (HG.out _ hJ.w).mono ?_); rintro e w1 ⟨rfl, hb1⟩)
  have hJ1 := hJ.later hb1
  have hw := hJ1.w
  clear c0 c1 c2 c3 c4 c5 c6 c7 c8 c9 ca cb cc cd ce cf t0 t1 t2 t3 t4 t5 hJ hb1 HG
  obtain ⟨c0, c1, c2, c3, c4, c5, c6, c7, c8, c9, ca, cb, cc, cd, ce, cf⟩ := c16row hJ1.a
  clear c0 c1 c2 c3 c4 c5 c6 c7 c8 c9 ca cb cc cd cf hJ1
  go_wp2
  go_ret3
  exact ⟨rfl, hw⟩
set_option maxRecDepth 100000 in
set_option maxHeartbeats 4000000 in
theorem rworst_ok (c : Ca) (fv dv sv : Value) (t : TQ) (ls : List Sp) (w : World) (hk : OkC c t) (S : SlX w sv ls) (hln : ls.length ≤ 64) (hpos : 0 < ls.length) (hin : ∀ p ∈ ls, InP p)
    (HGV : ∀ W, Below w.heap.size w W → Calls Tryz.prog 46 #[caV c fv dv sv, ttV (tqT t)] W (Ret W (.int .i64 0))) :
    Calls Tryz.prog 15 #[caV c fv dv sv, ttV (tqT t)] w (Ret w (wst3 (rtoa (wst (fC c t ls) ls.length).1) (wst (fC c t ls) ls.length).2 0)) := by
  have HG := Lib.hid HGV
  have HFT := Lib.hid (fun W (h : Below w.heap.size w W) => rFarthest_c c fv dv sv t ls W hk (S.later h) hln hpos hin)
  generalize rtoa (wst (fC c t ls) ls.length).1 = R at *
  generalize (wst (fC c t ls) ls.length).2 = AI at *
  obtain ⟨sa, cap, rfl⟩ := S.lenS
  generalize tqT t = tt at *
  have hn0 : ((ls.length : Int) == 0) = false := beq_eq_false_iff_ne.2 (by omega)
  generalize ls.length = n at *
  have hJ := Tw.new w (caC c fv dv (.slice sa n cap)).toList (ttC tt).toList 40 38
  obtain ⟨⟨nm, kind, axis, ⟨ax, ay, az⟩, lo, fhi⟩, ⟨xk, disc, tol, mat⟩, b0⟩ := c
  simp only at hJ
  clear HGV S hin hk
  go_enter Tryz.func15, Tryz.ntmps15
  go_upto_region 1 with fail
  generalize hW0 : (w.alloc (.cells #[.string ⟨nm.toArray⟩, .int .i64 kind, .int .i64 axis, .int .i64 ax, .int .i64 ay, .int .i64 az, .int .i64 lo, .int .i64 fhi, fv, .int .i64 xk, .bool disc, .int .i64 tol, .int .i64 mat, dv, .slice sa n cap, .int .i64 b0] 40)).alloc (.cells (ttC tt) 38) = W0 at *
  clear hW0
  generalize w.heap.size + 1 = gt at *
  obtain ⟨c0, c1, c2, c3, c4, c5, c6, c7, c8, c9, ca, cb, cc, cd, ce, cf⟩ := c16row hJ.a
  obtain ⟨t0, t1, t2, t3, t4, t5⟩ := c6row hJ.b
  go_wp2_with fail
  ((with_reducible refine (HG.out _ hJ.w).mono ?_); rintro e w1 ⟨rfl, hb1⟩)
  have hJ1 := hJ.later hb1
  have hw := hJ1.w
  clear c0 c1 c2 c3 c4 c5 c6 c7 c8 c9 ca cb cc cd ce cf t0 t1 t2 t3 t4 t5 hJ hb1 HG
  obtain ⟨c0, c1, c2, c3, c4, c5, c6, c7, c8, c9, ca, cb, cc, cd, ce, cf⟩ := c16row hJ1.a
  obtain ⟨t0, t1, t2, t3, t4, t5⟩ := c6row hJ1.b
  go_wp2_with fail
  ((with_reducible refine (HFT.out _ hw).mono ?_); rintro e w2 ⟨rfl, hb2⟩)
  have hw2 := hw.nx hb2
  clear c0 c1 c2 c3 c4 c5 c6 c7 c8 c9 ca cb cc cd ce cf t0 t1 t2 t3 t4 t5 hw hb2 hJ1
  go_wp2
  go_ret3
  exact ⟨rfl, hw2⟩
set_option maxRecDepth 100000 in
set_option maxHeartbeats 4000000 in
theorem rwithin_err (c : Ca) (fv dv sv : Value) (tt : TT) (E : Int) (hE : E ≠ 0) (w : World) (HGV : ∀ W, Below w.heap.size w W → Calls Tryz.prog 15 #[caV c fv dv sv, ttV tt] W (Ret W (wst3 [] 0 E))) :
    Calls Tryz.prog 17 #[caV c fv dv sv, ttV tt] w (Ret w (.tuple #[.bool false, .int .i64 E])) := by
  have HG := Lib.hid HGV
  have h3 := bne_ne hE
  have hJ := Tw.new w (caC c fv dv sv).toList (ttC tt).toList 40 38
  obtain ⟨⟨nm, kind, axis, ⟨ax, ay, az⟩, lo, fhi⟩, ⟨xk, disc, tol, mat⟩, b0⟩ := c
  simp only at hJ
  clear HGV hE
  go_enter Tryz.func17, Tryz.ntmps17
  go_upto_region 1 with fail
  generalize hW0 : (w.alloc (.cells #[.string ⟨nm.toArray⟩, .int .i64 kind, .int .i64 axis, .int .i64 ax, .int .i64 ay, .int .i64 az, .int .i64 lo, .int .i64 fhi, fv, .int .i64 xk, .bool disc, .int .i64 tol, .int .i64 mat, dv, sv, .int .i64 b0] 40)).alloc (.cells (ttC tt) 38) = W0 at *
  clear hW0
  generalize w.heap.size + 1 = gt at *
  obtain ⟨c0, c1, c2, c3, c4, c5, c6, c7, c8, c9, ca, cb, cc, cd, ce, cf⟩ := c16row hJ.a
  obtain ⟨t0, t1, t2, t3, t4, t5⟩ := c6row hJ.b
  go_wp2_with fail
  ((with_reducible refine (HG.out _ hJ.w).mono ?_); rintro e w1 ⟨rfl, hb1⟩)
  have hw := hJ.w.nx hb1
  clear c0 c1 c2 c3 c4 c5 c6 c7 c8 c9 ca cb cc cd ce cf t0 t1 t2 t3 t4 t5 hJ hb1 HG
  go_wp2
  go_ret2
  exact ⟨rfl, hw⟩
set_option maxRecDepth 100000 in
set_option maxHeartbeats 4000000 in
theorem rinside_ok (c : Ca) (fv dv sv : Value) (t : TQ) (ls : List Sp) (w : World) (hk : OkC c t) (S : SlX w sv ls) (hln : ls.length ≤ 64) (hpos : 0 < ls.length) (hin : ∀ p ∈ ls, InP p) (ht : 0 ≤ c.x.tol ∧ c.x.tol ≤ 100000) (hb : 0 ≤ c.b ∧ c.b ≤ 100000) :
    Calls Tryz.prog 49 #[caV c fv dv sv, ttV (tqT t)] w (Ret w (.bool (fitB (wst (fC c t ls) ls.length).1 (c.x.tol + c.b)))) := by
  have HFT := Lib.hid (fun W (h : Below w.heap.size w W) => rFarthest_c c fv dv sv t ls W hk (S.later h) hln hpos hin)
  have hq := sz_wst (fun j hj => fC_sz hk hin (ls := ls) hj) ls.length (Nat.le_refl _)
  have HF := Lib.hid (fun W => rFits_c (wst (fC c t ls) ls.length).1 (c.x.tol + c.b) W hq (by omega))
  generalize fitB (wst (fC c t ls) ls.length).1 (c.x.tol + c.b) = B at *
  generalize rtoa (wst (fC c t ls) ls.length).1 = R at *
  generalize (wst (fC c t ls) ls.length).2 = AI at *
  generalize tqT t = tt at *
  have hJ := Tw.new w (caC c fv dv sv).toList (ttC tt).toList 40 38
  obtain ⟨⟨nm, kind, axis, ⟨ax, ay, az⟩, lo, fhi⟩, ⟨xk, disc, tol, mat⟩, b0⟩ := c
  simp only at hJ HF ht hb
  have hw : IntKind.i64.wrap (tol + b0) = tol + b0 := IntWalk.i64_in _ (by omega)
  obtain ⟨s, hs⟩ : ∃ s, tol + b0 = s := ⟨_, rfl⟩
  replace hw := hw.trans hs
  rw [hs] at HF
  clear S hin hk hq ht hb hs
  go_enter Tryz.func49, Tryz.ntmps49
  go_upto_region 1 with fail
  generalize hW0 : (w.alloc (.cells #[.string ⟨nm.toArray⟩, .int .i64 kind, .int .i64 axis, .int .i64 ax, .int .i64 ay, .int .i64 az, .int .i64 lo, .int .i64 fhi, fv, .int .i64 xk, .bool disc, .int .i64 tol, .int .i64 mat, dv, sv, .int .i64 b0] 40)).alloc (.cells (ttC tt) 38) = W0 at *
  clear hW0
  generalize w.heap.size + 1 = gt at *
  obtain ⟨c0, c1, c2, c3, c4, c5, c6, c7, c8, c9, ca, cb, cc, cd, ce, cf⟩ := c16row hJ.a
  obtain ⟨t0, t1, t2, t3, t4, t5⟩ := c6row hJ.b
  go_wp2_with fail
  ((with_reducible refine (HFT.out _ hJ.w).mono ?_); rintro e w1 ⟨rfl, hb1⟩)
  have hJ1 := hJ.later hb1
  clear c0 c1 c2 c3 c4 c5 c6 c7 c8 c9 ca cb cc cd ce cf t0 t1 t2 t3 t4 t5 hJ hb1 HFT
  obtain ⟨c0, c1, c2, c3, c4, c5, c6, c7, c8, c9, ca, cb, cc, cd, ce, cf⟩ := c16row hJ1.a
  have hw1 := hJ1.w
  clear c0 c1 c2 c3 c4 c5 c6 c7 c8 c9 ca cc cd ce hJ1
  go_wp2_with fail
  ((with_reducible refine (HF.out _).mono ?_); rintro e w2 ⟨rfl, hb2⟩)
  have hw2 := hw1.nx hb2
  go_wp2
  go_ret
  exact ⟨rfl, hw2⟩
set_option maxRecDepth 100000 in
set_option maxHeartbeats 4000000 in
theorem rwithin_ok (c : Ca) (fv dv sv : Value) (t : TQ) (ls : List Sp) (R : Txt) (AI : Nat) (w : World) (hk : OkC c t) (S : SlX w sv ls) (hln : ls.length ≤ 64) (hpos : 0 < ls.length) (hin : ∀ p ∈ ls, InP p) (ht : 0 ≤ c.x.tol ∧ c.x.tol ≤ 100000) (hb : 0 ≤ c.b ∧ c.b ≤ 100000)
    (HWO : ∀ W, Below w.heap.size w W → Calls Tryz.prog 15 #[caV c fv dv sv, ttV (tqT t)] W (Ret W (wst3 R AI 0))) :
    Calls Tryz.prog 17 #[caV c fv dv sv, ttV (tqT t)] w (Ret w (.tuple #[.bool (fitB (wst (fC c t ls) ls.length).1 (c.x.tol + c.b)), .int .i64 0])) := by
  have HG := Lib.hid HWO
  have HIN := Lib.hid (fun W (h : Below w.heap.size w W) => rinside_ok c fv dv sv t ls W hk (S.later h) hln hpos hin ht hb)
  generalize fitB (wst (fC c t ls) ls.length).1 (c.x.tol + c.b) = B at *
  generalize tqT t = tt at *
  have hJ := Tw.new w (caC c fv dv sv).toList (ttC tt).toList 40 38
  obtain ⟨⟨nm, kind, axis, ⟨ax, ay, az⟩, lo, fhi⟩, ⟨xk, disc, tol, mat⟩, b0⟩ := c
  simp only at hJ
  clear HWO S hin hk ht hb
  go_enter Tryz.func17, Tryz.ntmps17
  go_upto_region 1 with fail
  generalize hW0 : (w.alloc (.cells #[.string ⟨nm.toArray⟩, .int .i64 kind, .int .i64 axis, .int .i64 ax, .int .i64 ay, .int .i64 az, .int .i64 lo, .int .i64 fhi, fv, .int .i64 xk, .bool disc, .int .i64 tol, .int .i64 mat, dv, sv, .int .i64 b0] 40)).alloc (.cells (ttC tt) 38) = W0 at *
  clear hW0
  generalize w.heap.size + 1 = gt at *
  obtain ⟨c0, c1, c2, c3, c4, c5, c6, c7, c8, c9, ca, cb, cc, cd, ce, cf⟩ := c16row hJ.a
  obtain ⟨t0, t1, t2, t3, t4, t5⟩ := c6row hJ.b
  go_wp2_with fail
  ((with_reducible refine (HG.out _ hJ.w).mono ?_); rintro e w1 ⟨rfl, hb1⟩)
  have hJ1 := hJ.later hb1
  clear c0 c1 c2 c3 c4 c5 c6 c7 c8 c9 ca cb cc cd ce cf t0 t1 t2 t3 t4 t5 hJ hb1 HG
  obtain ⟨c0, c1, c2, c3, c4, c5, c6, c7, c8, c9, ca, cb, cc, cd, ce, cf⟩ := c16row hJ1.a
  obtain ⟨t0, t1, t2, t3, t4, t5⟩ := c6row hJ1.b
  have hw1 := hJ1.w
  go_wp2_with fail
  ((with_reducible refine (HIN.out _ hw1).mono ?_); rintro e w2 ⟨rfl, hb2⟩)
  have hw2 := hw1.nx hb2
  clear c0 c1 c2 c3 c4 c5 c6 c7 c8 c9 ca cb cc cd ce cf t0 t1 t2 t3 t4 t5 hJ1
  go_wp2
  go_ret2
  exact ⟨rfl, hw2⟩
set_option maxRecDepth 100000 in
set_option maxHeartbeats 4000000 in
theorem rneeded_err (c : Ca) (fv dv sv : Value) (tt : TT) (E : Int) (hE : E ≠ 0) (w : World) (HGV : ∀ W, Below w.heap.size w W → Calls Tryz.prog 15 #[caV c fv dv sv, ttV tt] W (Ret W (wst3 [] 0 E))) :
    Calls Tryz.prog 19 #[caV c fv dv sv, ttV tt] w (Ret w (.tuple #[.int .i64 0, .int .i64 E])) := by
  have HG := Lib.hid HGV
  have h3 := bne_ne hE
  have hJ := Tw.new w (caC c fv dv sv).toList (ttC tt).toList 40 38
  obtain ⟨⟨nm, kind, axis, ⟨ax, ay, az⟩, lo, fhi⟩, ⟨xk, disc, tol, mat⟩, b0⟩ := c
  simp only at hJ
  clear HGV hE
  go_enter Tryz.func19, Tryz.ntmps19
  go_upto_region 1 with fail
  generalize hW0 : (w.alloc (.cells #[.string ⟨nm.toArray⟩, .int .i64 kind, .int .i64 axis, .int .i64 ax, .int .i64 ay, .int .i64 az, .int .i64 lo, .int .i64 fhi, fv, .int .i64 xk, .bool disc, .int .i64 tol, .int .i64 mat, dv, sv, .int .i64 b0] 40)).alloc (.cells (ttC tt) 38) = W0 at *
  clear hW0
  generalize w.heap.size + 1 = gt at *
  obtain ⟨c0, c1, c2, c3, c4, c5, c6, c7, c8, c9, ca, cb, cc, cd, ce, cf⟩ := c16row hJ.a
  obtain ⟨t0, t1, t2, t3, t4, t5⟩ := c6row hJ.b
  go_wp2_with fail
  ((with_reducible refine (HG.out _ hJ.w).mono ?_); rintro e w1 ⟨rfl, hb1⟩)
  have hw := hJ.w.nx hb1
  clear c0 c1 c2 c3 c4 c5 c6 c7 c8 c9 ca cb cc cd ce cf t0 t1 t2 t3 t4 t5 hJ hb1 HG
  go_wp2
  go_ret2
  exact ⟨rfl, hw⟩
set_option maxRecDepth 100000 in
set_option maxHeartbeats 4000000 in
theorem rneeded_ok (c : Ca) (fv dv sv : Value) (tt : TT) (q : Rat) (i : Nat) (w : World) (hq : szV q 475 21)
    (HWO : ∀ W, Below w.heap.size w W → Calls Tryz.prog 15 #[caV c fv dv sv, ttV tt] W (Ret W (wst3 (rtoa q) i 0))) :
    Calls Tryz.prog 19 #[caV c fv dv sv, ttV tt] w (Ret w (nedV q)) := by
  have HG := Lib.hid HWO
  have HF := Lib.hid (fun (m : Nat) (hm : m ≤ 200000) W => by
    have := rFits_c q (m : Int) W hq (by omega)
    rwa [show fitB q (m : Int) = decide (ned q ≤ m) from decide_eq_decide.2 (ned_iff hm)] at this)
  have hN := ned_le q
  obtain ⟨V, hV⟩ : ∃ V, nedV q = V := ⟨_, rfl⟩
  rw [hV]
  unfold nedV at hV
  generalize ned q = N at *
  have HV := Lib.hid hV
  clear hV
  have hJ := Tw.new w (caC c fv dv sv).toList (ttC tt).toList 40 38
  obtain ⟨⟨nm, kind, axis, ⟨ax, ay, az⟩, lo, fhi⟩, ⟨xk, disc, tol, mat⟩, b0⟩ := c
  simp only at hJ
  generalize rtoa q = tq at *
  clear HWO hq
  go_enter Tryz.func19, Tryz.ntmps19
  go_upto_region 1 with fail
  generalize hW0 : (w.alloc (.cells #[.string ⟨nm.toArray⟩, .int .i64 kind, .int .i64 axis, .int .i64 ax, .int .i64 ay, .int .i64 az, .int .i64 lo, .int .i64 fhi, fv, .int .i64 xk, .bool disc, .int .i64 tol, .int .i64 mat, dv, sv, .int .i64 b0] 40)).alloc (.cells (ttC tt) 38) = W0 at *
  clear hW0
  generalize w.heap.size + 1 = gt at *
  obtain ⟨c0, c1, c2, c3, c4, c5, c6, c7, c8, c9, ca, cb, cc, cd, ce, cf⟩ := c16row hJ.a
  obtain ⟨t0, t1, t2, t3, t4, t5⟩ := c6row hJ.b
  go_wp2_with fail
  ((with_reducible refine (HG.out _ hJ.w).mono ?_); rintro e w1 ⟨rfl, hb1⟩)
  have HJ1 := Lib.hid (hJ.w.nx hb1)
  clear c0 c1 c2 c3 c4 c5 c6 c7 c8 c9 ca cb cc cd ce cf t0 t1 t2 t3 t4 t5 hJ hb1 HG
  have HF0 := Lib.hid (fun W => HF.out 200000 (Nat.le_refl _) W)
  have hlast : ((200000 : Nat) : Int) = 200000 := rfl
  rw [hlast] at HF0
  by_cases h3 : N ≤ 200000
  rotate_left
  · obtain rfl : Value.tuple #[.int .i64 0, .int .i64 11] = V := by have := HV.out; rwa [if_neg h3] at this
    clear HV
    rw [decide_eq_false h3] at HF0
    go_wp2_with fail
    ((with_reducible refine (HF0.out _).mono ?_); rintro e w2 ⟨rfl, hb2⟩)
    have hw := HJ1.out.nx hb2
    go_wp2
    go_ret2
    exact ⟨rfl, hw⟩
  obtain rfl : Value.tuple #[.int .i64 (N : Int), .int .i64 0] = V := by have := HV.out; rwa [if_pos h3] at this
  clear HV
  rw [decide_eq_true h3] at HF0
  go_wp2_with fail
  ((with_reducible refine (HF0.out _).mono ?_); rintro e w2 ⟨rfl, hb2⟩)
  have HJ2 := Lib.hid (HJ1.out.nx hb2)
  clear hb2 HJ1 HF0
  go_wp2_with fail
  go_loopw [9, 10] (fun sl sh wr => ∃ l h : Nat, sl = .int .i64 (l : Int) ∧ sh = .int .i64 (h : Int) ∧ l ≤ N ∧ N ≤ h ∧ h ≤ 200000 ∧ Hid (Below w2.heap.size w2 wr)) (fun sl sh _ => (intOf sh).toNat - (intOf sl).toNat)
  case atStart => exact ⟨0, 200000, rfl, rfl, Nat.zero_le _, h3, Nat.le_refl _, Below.refl _ _⟩
  case round =>
    obtain ⟨l, h, rfl, rfl, hl, hh, h2, hB⟩ := hrel
    by_cases hlt : l < h
    · have z0 : (l : Int) < (h : Int) := by omega
      have zw : IntKind.i64.wrap ((l : Int) + (h : Int)) = (l : Int) + (h : Int) := IntWalk.i64_in _ (by omega)
      obtain ⟨m, hm⟩ : ∃ m : Nat, m = (l + h) / 2 := ⟨_, rfl⟩
      have zq : ((l : Int) + (h : Int)).tdiv 2 = (m : Int) := by rw [hm]; rw [show ((l : Int) + (h : Int)) = ((l + h : Nat) : Int) by simp]; rfl
      have hm1 : l ≤ m ∧ m < h := by omega
      have hm2 : m ≤ 200000 := by omega
      have HF1 := Lib.hid (fun W => HF.out m hm2 W)
      have zq2 : ((l : Int) + (h : Int)) / 2 = (m : Int) := by omega
      clear zq
      rw [← zq2] at HF1
      have HZ := Lib.hid zq2
      clear zq2
      by_cases hc : N ≤ m
      · rw [decide_eq_true hc] at HF1
        go_wp2_with fail
        ((with_reducible refine (HF1.out _).mono ?_); rintro e w5 ⟨rfl, hb5⟩)
        have HB5 := Lib.hid (hB.out.nx hb5)
        clear hb5 hB HF1 hm
        go_wp2
        go_roundw
        case rel => exact ⟨l, m, rfl, by rw [HZ.out], hl, hc, by omega, HB5.out⟩
        case measure => simp [intOf, HZ.out]; omega
      · rw [decide_eq_false hc] at HF1
        go_wp2_with fail
        ((with_reducible refine (HF1.out _).mono ?_); rintro e w5 ⟨rfl, hb5⟩)
        have HB5 := Lib.hid (hB.out.nx hb5)
        clear hb5 hB HF1 hm
        go_wp2
        go_roundw
        case rel => exact ⟨m + 1, h, by rw [HZ.out]; go_num, rfl, by omega, hh, h2, HB5.out⟩
        case measure => simp [intOf, HZ.out]; omega
    · have hln : l = N := by omega
      subst hln
      have hw := HJ2.out.nx hB.out
      have z0 : ¬ (l : Int) < (h : Int) := by omega
      clear hB
      go_wp2
      go_ret2
      exact ⟨rfl, hw⟩
end Go.Proofs.Wk
