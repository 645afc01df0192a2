/- POSITION: the deviations of a point, for all kinds of features, in the program. -/
import Derived.Test.YtdpjkfkmlaphhaaGreatDoorQF
import Derived.Test.YtdpjkfkmlaphhaaGreatDoorQV
import Derived.Test.YtdpjkfkmlaphhaaGreatDoorQW
import Derived.Test.YtdpjkfkmlaphhaaGreatDoorQX
import Derived.Test.YtdpjkfkmlaphhaaGreatDoorQY
namespace Go.Proofs.Wk
open Go.RowKit Mt Po

theorem fiveK {k : Int} (h : 0 ≤ k ∧ k < 5) : k = 0 ∨ k = 1 ∨ k = 2 ∨ k = 3 ∨ k = 4 := by omega
theorem off_c (c : Ca) (fv dv sv : Value) (t : TQ) (p : Sp) (w : World) (hg : Good w) (hk : 0 ≤ c.f.kind ∧ c.f.kind < 5) (ha : 0 ≤ c.f.axis ∧ c.f.axis < 3) (hpos : InP c.f.pos) (ht : ShT t) (hp : InP p) :
    Calls Tryz.prog 52 #[caV c fv dv sv, ttV (tqT t), spV p] w (OffR w ((devs c.f.kind c.f.axis c.f.pos t p).map rtoa)) := by
  obtain ⟨⟨nm, kind, axis, a, lo, hi⟩, ⟨xk, disc, tol, mat⟩, b⟩ := c
  simp only at hk ha hpos
  rcases fiveK hk with rfl | rfl | rfl | rfl | rfl
  · exact off0_c nm axis lo hi xk tol mat b disc a fv dv sv t p w hg ha hpos ht hp
  · exact off1_c nm axis lo hi xk tol mat b disc a fv dv sv t p w hg ha hpos ht hp
  · exact off2_c nm axis lo hi xk tol mat b disc a fv dv sv t p w hg ha hpos ht hp
  · exact off3_c nm axis lo hi xk tol mat b disc a fv dv sv t p w hg ha hpos ht hp
  · exact off4_c nm axis lo hi xk tol mat b disc a fv dv sv t p w hg ha hpos ht hp
set_option maxRecDepth 100000 in
set_option maxHeartbeats 2000000 in
theorem pfits_c (q : Rat) (n : Int) (w : World) (hg : Good w) (hq : szV q 475 21) (hn : 0 ≤ n ∧ n ≤ 200001) : Calls Tryz.prog 88 #[.string ⟨(rtoa q).toArray⟩, .int .i64 n] w (Ret w (.tuple #[.bool (fitB q n), .int .i64 0])) := by
  have h4 : rtoa 4 = [52] := by rw [show (4 : Rat) = ((4 : Int) : Rat) from rfl, rtoa_int]; decide +kernel
  have hnn : 0 ≤ n * n ∧ n * n ≤ 40000400001 := by
    have h1 := Int.mul_le_mul hn.2 hn.2 hn.1 (by omega)
    have h2 := Int.mul_nonneg hn.1 hn.1
    omega
  have hsz : szV ((n * n : Int) : Rat) 1 10 := szV_int ((lng_le (n * n) (k := 11) (by omega)).2 (by omega))
  have HM := Lib.hid (fun W (h : Below w.heap.size w W) => by have := mulR szV_four hq (by omega) W (hg.later h); rwa [h4] at this)
  have HW := Lib.hid (fun W (h : Below w.heap.size w W) => wholeR (n * n) W (hg.later h) (by omega))
  have HC := Lib.hid (fun W (h : Below w.heap.size w W) => cmpR (szV_mul szV_four hq) hsz (m := 21) (by omega) (by omega) (by omega) W (hg.later h))
  have hB : decide (cmpQ (4 * q) ((n * n : Int) : Rat) ≤ 0) = fitB q n := by
    unfold fitB fits
    exact decide_eq_decide.2 cmpQ_nonpos
  rw [← hB]
  clear hB hg hq hsz h4
  generalize rtoa (4 * q) = t4 at *
  generalize rtoa q = tq at *
  obtain ⟨nn, hq⟩ : ∃ m, n * n = m := ⟨_, rfl⟩
  have hw : IntKind.i64.wrap (n * n) = nn := (IntWalk.i64_in _ (by omega)).trans hq
  rw [hq] at HW HC ⊢
  clear hq
  generalize cmpQ (4 * q) ((nn : Int) : Rat) = cc at *
  have hB0 := Below.refl w.heap.size w
  go_enter Tryz.func88, Tryz.ntmps88
  go_wp2_with fail
  ((with_reducible refine (HM.out _ hB0).mono ?_); rintro e w1 ⟨rfl, hb1⟩)
  go_wp2_with fail
  ((with_reducible refine (HW.out _ hb1).mono ?_); rintro e w2 ⟨rfl, hb2⟩)
  have hB2 := hb1.nx hb2
  go_wp2_with fail
  ((with_reducible refine (HC.out _ hB2).mono ?_); rintro e w3 ⟨rfl, hb3⟩)
  have hB3 := hB2.nx hb3
  go_wp2
  go_ret2
  exact ⟨rfl, hB3⟩
end Go.Proofs.Wk
/- POSITION: the squared deviation of a point, in the program. -/
namespace Go.Proofs.Wk
open Go.RowKit Mt Po

/-- A right case, a short torsor. -/
structure OkC (c : Ca) (t : TQ) : Prop where
  k : 0 ≤ c.f.kind ∧ c.f.kind < 5
  a : 0 ≤ c.f.axis ∧ c.f.axis < 3
  p : InP c.f.pos
  t : ShT t
def dvC (c : Ca) (t : TQ) (p : Sp) : List Rat := devs c.f.kind c.f.axis c.f.pos t p
def sqC (c : Ca) (t : TQ) (p : Sp) : Rat := farQ (dvC c t p) c.x.disc
theorem dvC_sh {c : Ca} {t : TQ} (h : OkC c t) {p : Sp} (hp : InP p) : ShL (dvC c t p) := sh_devs h.t hp h.p _ _
theorem sqC_sz {c : Ca} {t : TQ} (h : OkC c t) {p : Sp} (hp : InP p) : szV (sqC c t p) 475 21 := sz_far (dvC_sh h hp) _
theorem dvC_pos {c : Ca} {t : TQ} (h : OkC c t) (p : Sp) : 0 < (dvC c t p).length := by
  unfold dvC devs; rw [List.length_map]; exact axesL_pos h.k h.a
structure CtM (w W : World) (gc gt gp : Nat) (cs ts ps : Array Value) : Prop where
  c : W.heap[gc]? = some (.cells cs 34 (0, 0))
  t : W.heap[gt]? = some (.cells ts 38 (0, 0))
  p : W.heap[gp]? = some (.cells ps 23 (0, 0))
  w : Below w.heap.size w W
theorem CtM.new (w : World) (cs ts ps : Array Value) : CtM w (((w.alloc (.cells cs 34)).alloc (.cells ts 38)).alloc (.cells ps 23)) w.heap.size (w.heap.size + 1) (w.heap.size + 1 + 1) cs ts ps :=
  ⟨keepD (heap_alloc_new w _) (bx2 _ _ _), keepD (nw2 w cs ts _ _) (below_al _ _), nw3 w cs ts ps _ _ _, bx3 w _ _ _⟩
theorem CtM.later {w W W' : World} {gc gt gp : Nat} {cs ts ps : Array Value} (h : CtM w W gc gt gp cs ts ps) (hb : Below W.heap.size W W') : CtM w W' gc gt gp cs ts ps := ⟨keepD h.c hb, keepD h.t hb, keepD h.p hb, h.w.nx hb⟩
set_option maxRecDepth 100000 in
set_option maxHeartbeats 4000000 in
theorem squared_c (c : Ca) (fv dv sv : Value) (t : TQ) (p : Sp) (w : World) (hg : Good w) (hk : OkC c t) (hp : InP p) :
    Calls Tryz.prog 86 #[caV c fv dv sv, ttV (tqT t), spV p] w (Ret w (ans2 (rtoa (sqC c t p), 0))) := by
  have HOF := Lib.hid (fun W (h : Below w.heap.size w W) => off_c c fv dv sv t p W (hg.later h) hk.k hk.a hk.p hk.t hp)
  have hsh := dvC_sh hk hp
  have hps := dvC_pos hk p
  have hres : sqC c t p = farQ (dvC c t p) c.x.disc := rfl
  rw [hres]
  change Hid (∀ W (h : Below w.heap.size w W), Calls Tryz.prog 52 #[caV c fv dv sv, ttV (tqT t), spV p] W (OffR W ((dvC c t p).map rtoa))) at HOF
  clear hres
  generalize dvC c t p = l at *
  have HM := Lib.hid (fun i W (h : Below w.heap.size w W) => mulR (hsh.get i) (hsh.get i) (by omega) W (hg.later h))
  have HAD := Lib.hid (fun i (hi : i < 3) W (h : Below w.heap.size w W) => addR (sz_sum hsh i) (hsh.sq i) (m := 18 + i) (by omega) (by omega) (by omega) W (hg.later h))
  have HCP := Lib.hid (fun i W (h : Below w.heap.size w W) => cmpR (hsh.sq i) (sz_most hsh i) (m := 18) (by omega) (by omega) (by omega) W (hg.later h))
  have HL3 := Lib.hid hsh.1
  have HSU := Lib.hid (fun i => show sumQ l i + l.getD i 0 * l.getD i 0 = sumQ l (i + 1) from rfl)
  have HY := Lib.hid (fun i (h : 0 < cmpQ (l.getD i 0 * l.getD i 0) (mostQ l i)) => show mostQ l (i + 1) = l.getD i 0 * l.getD i 0 from if_pos (cmpQ_pos.1 h))
  have HNO := Lib.hid (fun i (h : cmpQ (l.getD i 0 * l.getD i 0) (mostQ l i) ≤ 0) => show mostQ l (i + 1) = mostQ l i from if_neg (fun q => Int.not_lt.2 h (cmpQ_pos.2 q)))
  have HGT := Lib.hid (fun i (hi : i < l.length) => show l[i] = l.getD i 0 by rw [List.getD_eq_getElem?_getD, List.getElem?_eq_getElem hi]; rfl)
  have HS0 := Lib.hid (show rtoa (sumQ l 0) = [48] from rtoa_zero)
  have HT0 := Lib.hid (show rtoa (mostQ l 0) = [48] from rtoa_zero)
  have HE := Lib.hid (show farQ l c.x.disc = if c.x.disc then sumQ l l.length else mostQ l l.length from rfl)
  have hJ := CtM.new w (caC c fv dv sv) (ttC (tqT t)) #[.int .i64 p.x, .int .i64 p.y, .int .i64 p.z]
  generalize tqT t = tt at *
  clear hg hk hsh hp
  obtain ⟨⟨nm, kind, axis, ⟨ax, ay, az⟩, lo, hi⟩, ⟨xk, disc, tol, mat⟩, b0⟩ := c
  simp only at HE hJ ⊢
  generalize hfq : farQ l disc = FQ at *
  clear hfq
  go_enter Tryz.func86, Tryz.ntmps86
  go_upto_region 1 with fail
  generalize hW0 : ((w.alloc (.cells #[.string ⟨nm.toArray⟩, .int .i64 kind, .int .i64 axis, .int .i64 ax, .int .i64 ay, .int .i64 az, .int .i64 lo, .int .i64 hi, fv, .int .i64 xk, .bool disc, .int .i64 tol, .int .i64 mat, dv, sv, .int .i64 b0] 34)).alloc (.cells (ttC tt) 38)).alloc (.cells #[.int .i64 p.x, .int .i64 p.y, .int .i64 p.z] 23) = W0 at *
  clear hW0
  generalize w.heap.size + 1 + 1 = gp at *
  generalize w.heap.size + 1 = gt at *
  obtain ⟨c0, c1, c2, c3, c4, c5, c6, c7, c8, c9, ca, cb, cc, cd, ce, cf⟩ := c16row hJ.c
  obtain ⟨t0, t1, t2, t3, t4, t5⟩ := c6row hJ.t
  obtain ⟨p0, p1, p2⟩ := c3row hJ.p
  go_wp2_with fail
  ((with_reducible refine (HOF.out _ hJ.w).mono ?_); rintro e w1 ⟨v, rfl, hS, hb1⟩)
  clear c0 c1 c2 c3 c4 c5 c6 c7 c8 c9 ca cb cc cd ce cf t0 t1 t2 t3 t4 t5 p0 p1 p2
  have HJ1 := Lib.hid (hJ.later hb1)
  clear hJ hb1
  rcases hS with ⟨a, cp, rfl, h0⟩ | ⟨b, off, cap, rfl, hR, hl⟩
  · exfalso
    have := congrArg List.length h0
    simp at this
    subst this
    exact absurd hps (by simp)
  have hR2 : ∀ (W : World), Below w1.heap.size w1 W → ∀ i (hi : i < l.length), W.cell? ⟨b, off + i, none⟩ = some (.string ⟨(rtoa (l.getD i 0)).toArray⟩) := fun W h i hi => by
    have := (hR.later h hl) i (by simpa using hi)
    rw [this, List.getElem_map, HGT.out i hi]
  have HR := Lib.hid hR2
  clear hR2 hR hl HGT
  simp only [List.length_map]
  obtain ⟨n, hn⟩ : ∃ n, l.length = n := ⟨_, rfl⟩
  rw [hn] at HR HL3 HE hps ⊢
  clear hn
  have hn3 : n ≤ 3 := HL3.out
  have hnp : 0 < n := hps
  clear HL3 hps
  go_wp2_with fail
  go_loopw [10, 11, 29] (fun ss sm si wr => ∃ i : Nat, si = .int .i64 (i : Int) ∧ i ≤ n ∧ ss = .string ⟨(rtoa (sumQ l i)).toArray⟩ ∧ sm = .string ⟨(rtoa (mostQ l i)).toArray⟩ ∧ Hid (Below w1.heap.size w1 wr)) (fun _ _ si _ => n - (intOf si).toNat)
  case atStart => exact ⟨0, rfl, Nat.zero_le _, by rw [HS0.out], by rw [HT0.out], Below.refl _ _⟩
  case round =>
    obtain ⟨i, rfl, hi, rfl, rfl, hB⟩ := hrel
    by_cases hlt : i < n
    · have k0 := HR.out _ hB.out i hlt
      have HM1 := Lib.hid (fun W h => HM.out i W h)
      have HA1 := Lib.hid (fun W h => HAD.out i (by omega) W h)
      rw [HSU.out i] at HA1
      have HC1 := Lib.hid (fun W h => HCP.out i W h)
      have HY1 := Lib.hid (fun h => HY.out i h)
      have HN1 := Lib.hid (fun h => HNO.out i h)
      obtain ⟨tn, htn⟩ : ∃ t, rtoa (sumQ l (i + 1)) = t := ⟨_, rfl⟩
      rw [htn] at HA1
      have HTN := Lib.hid htn
      clear htn
      generalize cmpQ (l.getD i 0 * l.getD i 0) (mostQ l i) = cq at *
      obtain ⟨tq, htq⟩ : ∃ t, rtoa (l.getD i 0 * l.getD i 0) = t := ⟨_, rfl⟩
      obtain ⟨tm, htm⟩ : ∃ t, rtoa (mostQ l i) = t := ⟨_, rfl⟩
      rw [htq] at HM1 HA1 HC1
      rw [htm] at HC1 ⊢
      have HTQ := Lib.hid htq
      have HTM := Lib.hid htm
      clear htq htm
      generalize rtoa (l.getD i 0) = tx at *
      generalize rtoa (sumQ l i) = ts at *
      have j0 : (i : Int) < (n : Int) := by omega
      go_wp2_with fail
      ((with_reducible refine (HM1.out _ (HJ1.out.w.nx hB.out)).mono ?_); rintro e w2 ⟨rfl, hb2⟩)
      have HB2 := Lib.hid (hB.out.nx hb2)
      clear hb2 k0 hB
      go_wp2_with fail
      ((with_reducible refine (HA1.out _ (HJ1.out.w.nx HB2.out)).mono ?_); rintro e w3 ⟨rfl, hb3⟩)
      have HB3 := Lib.hid (HB2.out.nx hb3)
      clear hb3 HB2
      go_wp2_with fail
      ((with_reducible refine (HC1.out _ (HJ1.out.w.nx HB3.out)).mono ?_); rintro e w4 ⟨rfl, hb4⟩)
      have HB4 := Lib.hid (HB3.out.nx hb4)
      clear hb4 HB3
      by_cases hc : 0 < cq
      · have HQ := Lib.hid (HY1.out hc)
        clear HY1 HN1
        go_wp2
        go_roundw
        case rel => exact ⟨i + 1, by go_num, by omega, by rw [HTN.out], by rw [HQ.out, HTQ.out], HB4.out⟩
        case measure => simp [intOf]; omega
      · have HQ := Lib.hid (HN1.out (Int.not_lt.1 hc))
        clear HY1 HN1
        go_wp2
        go_roundw
        case rel => exact ⟨i + 1, by go_num, by omega, by rw [HTN.out], by rw [HQ.out, HTM.out], HB4.out⟩
        case measure => simp [intOf]; omega
    · obtain rfl : i = n := by omega
      have HJ2 := HJ1.out.later hB.out
      obtain ⟨c0, c1, c2, c3, c4, c5, c6, c7, c8, c9, ca, cb, cc, cd, ce, cf⟩ := c16row HJ2.c
      have hw := HJ2.w
      clear c0 c1 c2 c3 c4 c5 c6 c7 c8 c9 cb cc cd ce cf hB HJ2
      cases disc with
      | false =>
        obtain rfl : FQ = mostQ l i := by rw [HE.out]; rfl
        clear HE
        generalize rtoa (mostQ l i) = tm at *
        generalize rtoa (sumQ l i) = ts at *
        go_wp2
        go_ret2
        exact ⟨rfl, hw⟩
      | true =>
        obtain rfl : FQ = sumQ l i := by rw [HE.out]; rfl
        clear HE
        generalize rtoa (mostQ l i) = tm at *
        generalize rtoa (sumQ l i) = ts at *
        go_wp2
        go_ret2
        exact ⟨rfl, hw⟩
end Go.Proofs.Wk
/- POSITION: the worst point, in the program. -/
namespace Go.Proofs.Wk
open Go.RowKit Mt Po

/-- The values of all points. -/
def fC (c : Ca) (t : TQ) (ls : List Sp) (i : Nat) : Rat := sqC c t (Po.at_ ls i)
theorem fC_nonneg (c : Ca) (t : TQ) (ls : List Sp) (i : Nat) : 0 ≤ fC c t ls i := farQ_nonneg _ _
theorem fC_sz {c : Ca} {t : TQ} (h : OkC c t) {ls : List Sp} (hin : ∀ p ∈ ls, InP p) {i : Nat} (hi : i < ls.length) : szV (fC c t ls i) 475 21 := sqC_sz h (hin _ (Po.at_mem hi))
def bstT (f : Nat → Rat) (i : Nat) : Txt := if i = 0 then [] else rtoa (wst f i).1
theorem worst_err (c : Ca) (fv dv sv : Value) (tt : TT) (E : Int) (hE : E ≠ 0) (w : World) (HGV : ∀ W, Below w.heap.size w W → Calls Tryz.prog 51 #[caV c fv dv sv, ttV tt] W (Ret W (.int .i64 E))) :
    Calls Tryz.prog 40 #[caV c fv dv sv, ttV tt] w (Ret w (.tuple #[.string ⟨#[]⟩, .int .i64 0, .int .i64 E])) := by
  have HG := Lib.hid HGV
  have hJ := Tw.new w (caC c fv dv sv).toList (ttC tt).toList 34 38
  have h3 := bne_ne hE
  obtain ⟨⟨nm, kind, axis, ⟨ax, ay, az⟩, lo, hi⟩, ⟨xk, disc, tol, mat⟩, b0⟩ := c
  simp only at hJ
  clear HGV hE
  go_enter Tryz.func40, Tryz.ntmps40
  go_upto_region 1 with fail
  generalize hW0 : (w.alloc (.cells #[.string ⟨nm.toArray⟩, .int .i64 kind, .int .i64 axis, .int .i64 ax, .int .i64 ay, .int .i64 az, .int .i64 lo, .int .i64 hi, fv, .int .i64 xk, .bool disc, .int .i64 tol, .int .i64 mat, dv, sv, .int .i64 b0] 34)).alloc (.cells (ttC tt) 38) = W0 at *
  clear hW0
  generalize w.heap.size + 1 = gt at *
  obtain ⟨c0, c1, c2, c3, c4, c5, c6, c7, c8, c9, ca, cb, cc, cd, ce, cf⟩ := c16row hJ.a
  obtain ⟨t0, t1, t2, t3, t4, t5⟩ := c6row hJ.b
  go_wp2_with fail
  ((with_reducible refine (HG.out _ hJ.w).mono ?_); rintro e w1 ⟨rfl, hb1⟩)
  have hw := hJ.w.nx hb1
  clear c0 c1 c2 c3 c4 c5 c6 c7 c8 c9 ca cb cc cd ce cf t0 t1 t2 t3 t4 t5 hJ hb1 HG
  go_wp2
  go_ret3
  exact ⟨rfl, hw⟩
end Go.Proofs.Wk
/- POSITION: the worst point, zones, the width that is needed, in the program. -/
namespace Go.Proofs.Wk
open Go.RowKit Mt Po

set_option maxRecDepth 100000 in
set_option maxHeartbeats 2000000 in
theorem worst_nil (c : Ca) (fv dv sv : Value) (tt : TT) (w : World) (S : SlX w sv ([] : List Sp)) (HGV : ∀ W, Below w.heap.size w W → Calls Tryz.prog 51 #[caV c fv dv sv, ttV tt] W (Ret W (.int .i64 0))) :
    Calls Tryz.prog 40 #[caV c fv dv sv, ttV tt] w (Ret w (.tuple #[.string ⟨#[]⟩, .int .i64 0, .int .i64 13])) := by
  have HG := Lib.hid HGV
  obtain ⟨sa, cap, rfl⟩ := S.lenS
  have hJ := Tw.new w (caC c fv dv (.slice sa 0 cap)).toList (ttC tt).toList 34 38
  simp only [List.length_nil] at HG ⊢
  obtain ⟨⟨nm, kind, axis, ⟨ax, ay, az⟩, lo, hi⟩, ⟨xk, disc, tol, mat⟩, b0⟩ := c
  simp only at hJ
  clear HGV S
  go_enter Tryz.func40, Tryz.ntmps40
  go_upto_region 1 with fail
  generalize hW0 : (w.alloc (.cells #[.string ⟨nm.toArray⟩, .int .i64 kind, .int .i64 axis, .int .i64 ax, .int .i64 ay, .int .i64 az, .int .i64 lo, .int .i64 hi, fv, .int .i64 xk, .bool disc, .int .i64 tol, .int .i64 mat, dv, .slice sa 0 cap, .int .i64 b0] 34)).alloc (.cells (ttC tt) 38) = W0 at *
  clear hW0
  generalize w.heap.size + 1 = gt at *
  obtain ⟨c0, c1, c2, c3, c4, c5, c6, c7, c8, c9, ca, cb, cc, cd, ce, cf⟩ := c16row hJ.a
  obtain ⟨t0, t1, t2, t3, t4, t5⟩ := c6row hJ.b
  go_wp2_with fail
  ((with_reducible refine (HG.out _ hJ.w).mono ?_); rintro e w1 ⟨rfl, hb1⟩)
  have hJ1 := hJ.later hb1
  have hw := hJ1.w
  clear c0 c1 c2 c3 c4 c5 c6 c7 c8 c9 ca cb cc cd ce cf t0 t1 t2 t3 t4 t5 hJ hb1 HG
  obtain ⟨c0, c1, c2, c3, c4, c5, c6, c7, c8, c9, ca, cb, cc, cd, ce, cf⟩ := c16row hJ1.a
  clear c0 c1 c2 c3 c4 c5 c6 c7 c8 c9 ca cb cc cd cf hJ1
  go_wp2
  go_ret3
  exact ⟨rfl, hw⟩
set_option maxRecDepth 100000 in
set_option maxHeartbeats 8000000 in
theorem worst_ok (c : Ca) (fv dv sv : Value) (t : TQ) (ls : List Sp) (w : World) (hg : Good w) (hk : OkC c t) (S : SlX w sv ls) (hln : ls.length ≤ 64) (hpos : 0 < ls.length) (hin : ∀ p ∈ ls, InP p)
    (HGV : ∀ W, Below w.heap.size w W → Calls Tryz.prog 51 #[caV c fv dv sv, ttV (tqT t)] W (Ret W (.int .i64 0))) :
    Calls Tryz.prog 40 #[caV c fv dv sv, ttV (tqT t)] w (Ret w (.tuple #[.string ⟨(rtoa (wst (fC c t ls) ls.length).1).toArray⟩, .int .i64 ((wst (fC c t ls) ls.length).2 : Int), .int .i64 0])) := by
  have HG := Lib.hid HGV
  have HSQ := Lib.hid (fun i (hi : i < ls.length) W (h : Below w.heap.size w W) => squared_c c fv dv sv t (Po.at_ ls i) W (hg.later h) hk (hin _ (Po.at_mem hi)))
  have HCM := Lib.hid (fun i (hi : i < ls.length) W (h : Below w.heap.size w W) => cmpR (fC_sz hk hin hi) (sz_wst (fun j hj => fC_sz hk hin (ls := ls) hj) i (Nat.le_of_lt hi)) (m := 21) (by omega) (by omega) (by omega) W (hg.later h))
  have HNN := Lib.hid (fun i => fC_nonneg c t ls i)
  change Hid (∀ i (hi : i < ls.length) W (h : Below w.heap.size w W), Calls Tryz.prog 86 #[caV c fv dv sv, ttV (tqT t), spV (Po.at_ ls i)] W (Ret W (ans2 (rtoa (fC c t ls i), 0)))) at HSQ
  generalize fC c t ls = f at *
  have H1 := Lib.hid (show wst f 1 = (f 0, 0) from wst_one HNN.out)
  have HY := Lib.hid (fun i (h : 0 < cmpQ (f i) (wst f i).1) => show wst f (i + 1) = (f i, i) from if_pos (cmpQ_pos.1 h))
  have HNO := Lib.hid (fun i (h : cmpQ (f i) (wst f i).1 ≤ 0) => show wst f (i + 1) = wst f i from if_neg (fun q => Int.not_lt.2 h (cmpQ_pos.2 q)))
  have hJ := Tw.new w (caC c fv dv sv).toList (ttC (tqT t)).toList 34 38
  rcases S with ⟨a, cp, -, h0⟩ | ⟨b, off, cap, rfl, hR, hl⟩
  · rw [h0] at hpos; exact absurd hpos (by simp)
  have hR2 : ∀ (W : World), Below w.heap.size w W → ∀ i (hi : i < ls.length), W.cell? ⟨b, off + i * 3, none⟩ = some (.int .i64 (Po.at_ ls i).x) ∧ W.cell? ⟨b, off + i * 3 + 1, none⟩ = some (.int .i64 (Po.at_ ls i).y) ∧ W.cell? ⟨b, off + i * 3 + 2, none⟩ = some (.int .i64 (Po.at_ ls i).z) := fun W h i hi => (hR.later h hl).sp hi
  have HR := Lib.hid hR2
  clear hR2 hR hl hg hk hin HGV
  generalize tqT t = tt at *
  obtain ⟨⟨nm, kind, axis, ⟨ax, ay, az⟩, lo, hi⟩, ⟨xk, disc, tol, mat⟩, b0⟩ := c
  simp only at hJ
  go_enter Tryz.func40, Tryz.ntmps40
  go_upto_region 1 with fail
  generalize hW0 : (w.alloc (.cells #[.string ⟨nm.toArray⟩, .int .i64 kind, .int .i64 axis, .int .i64 ax, .int .i64 ay, .int .i64 az, .int .i64 lo, .int .i64 hi, fv, .int .i64 xk, .bool disc, .int .i64 tol, .int .i64 mat, dv, .slice (some ⟨b, off, none⟩) ls.length cap, .int .i64 b0] 34)).alloc (.cells (ttC tt) 38) = W0 at *
  clear hW0
  generalize w.heap.size + 1 = gt at *
  obtain ⟨c0, c1, c2, c3, c4, c5, c6, c7, c8, c9, ca, cb, cc, cd, ce, cf⟩ := c16row hJ.a
  obtain ⟨t0, t1, t2, t3, t4, t5⟩ := c6row hJ.b
  go_wp2_with fail
  ((with_reducible refine (HG.out _ hJ.w).mono ?_); rintro e w1 ⟨rfl, hb1⟩)
  have HJ1 := Lib.hid (hJ.later hb1)
  clear c0 c1 c2 c3 c4 c5 c6 c7 c8 c9 ca cb cc cd ce cf t0 t1 t2 t3 t4 t5 hJ hb1 HG
  obtain ⟨c0, c1, c2, c3, c4, c5, c6, c7, c8, c9, ca, cb, cc, cd, ce, cf⟩ := c16row HJ1.out.a
  have hn0 : ((ls.length : Int) == 0) = false := beq_eq_false_iff_ne.2 (by omega)
  obtain ⟨n, hn⟩ : ∃ n, ls.length = n := ⟨_, rfl⟩
  have HLN := Lib.hid hn
  rw [hn] at HR hln hpos HSQ HCM ce hn0 HJ1 ⊢
  clear hn c0 c1 c2 c3 c4 c5 c6 c7 c8 c9 ca cb cc cd cf
  go_wp2_with fail
  clear ce hn0
  go_loopw [8, 9, 28] (fun sb sa si wr => ∃ i : Nat, si = .int .i64 (i : Int) ∧ i ≤ n ∧ sb = .string ⟨(bstT f i).toArray⟩ ∧ sa = .int .i64 ((wst f i).2 : Int) ∧ Hid (Below w1.heap.size w1 wr)) (fun _ _ si _ => n - (intOf si).toNat)
  case atStart => exact ⟨0, rfl, Nat.zero_le _, rfl, rfl, Below.refl _ _⟩
  case round =>
    obtain ⟨i, rfl, hi, rfl, rfl, hB⟩ := hrel
    by_cases hlt : i < n
    · obtain ⟨k0, k1, k2⟩ := HR.out _ (HJ1.out.w.nx hB.out) i hlt
      have HS1 := Lib.hid (fun W h => HSQ.out i hlt W h)
      have HC1 := Lib.hid (fun W h => HCM.out i hlt W h)
      have HY1 := Lib.hid (fun h => HY.out i h)
      have HN1 := Lib.hid (fun h => HNO.out i h)
      have j1 : (i : Int) < (n : Int) := by omega
      generalize Po.at_ ls i = p at *
      obtain ⟨px, py, pz⟩ := p
      simp only at k0 k1 k2 HS1
      generalize cmpQ (f i) (wst f i).1 = cq at *
      obtain ⟨tq, htq⟩ : ∃ t, rtoa (f i) = t := ⟨_, rfl⟩
      rw [htq] at HS1 HC1
      have HTQ := Lib.hid htq
      clear htq
      have hal := below_al wr (.cells #[.int .i64 px, .int .i64 py, .int .i64 pz] 23)
      have HB1 := Lib.hid (hB.out.nx hal)
      obtain ⟨c0, c1, c2, c3, c4, c5, c6, c7, c8, c9, ca, cb, cc, cd, ce, cf⟩ := c16row (HJ1.out.later HB1.out).a
      obtain ⟨t0, t1, t2, t3, t4, t5⟩ := c6row (HJ1.out.later HB1.out).b
      have hnew := heap_alloc_new wr (.cells #[.int .i64 px, .int .i64 py, .int .i64 pz] 23)
      go_upto_region 10 with fail
      generalize wr.alloc (.cells #[.int .i64 px, .int .i64 py, .int .i64 pz] 23) = W2 at *
      obtain ⟨p0, p1, p2⟩ := c3row hnew
      go_wp2_with fail
      ((with_reducible refine (HS1.out _ (HJ1.out.w.nx HB1.out)).mono ?_); rintro e w2 ⟨rfl, hb2⟩)
      have HB2 := Lib.hid (HB1.out.nx hb2)
      clear hb2 hal k0 k1 k2 p0 p1 p2 hnew c0 c1 c2 c3 c4 c5 c6 c7 c8 c9 ca cb cc cd ce cf t0 t1 t2 t3 t4 t5 hB
      by_cases hz : i = 0
      · subst hz
        have HQ := H1
        clear HY1 HN1 HC1
        go_wp2
        go_roundw
        case rel => exact ⟨1, by go_num, by omega, by unfold bstT; rw [if_neg (by omega), HQ.out, HTQ.out], by rw [HQ.out]; rfl, HB2.out⟩
        case measure => simp [intOf]; omega
      · have hb : bstT f i = rtoa (wst f i).1 := if_neg hz
        rw [hb]
        have hz2 : (0 : Int) < (i : Int) := by omega
        obtain ⟨tb, htb⟩ : ∃ t, rtoa (wst f i).1 = t := ⟨_, rfl⟩
        rw [htb] at HC1 ⊢
        have HTB := Lib.hid (hb.trans htb)
        clear htb hb hz
        go_wp2_with fail
        ((with_reducible refine (HC1.out _ (HJ1.out.w.nx HB2.out)).mono ?_); rintro e w3 ⟨rfl, hb3⟩)
        have HB3 := Lib.hid (HB2.out.nx hb3)
        clear hb3 HB2
        by_cases hc : 0 < cq
        · have HQ := Lib.hid (HY1.out hc)
          clear HY1 HN1
          go_wp2
          go_roundw
          case rel => exact ⟨i + 1, by go_num, by omega, by unfold bstT; rw [if_neg (by omega), HQ.out, HTQ.out], by rw [HQ.out], HB3.out⟩
          case measure => simp [intOf]; omega
        · have HQ := Lib.hid (HN1.out (Int.not_lt.1 hc))
          clear HY1 HN1
          go_wp2
          go_roundw
          case rel => exact ⟨i + 1, by go_num, by omega, by rw [← HTB.out]; unfold bstT; rw [if_neg (by omega), if_neg (by omega), HQ.out], by rw [HQ.out], HB3.out⟩
          case measure => simp [intOf]; omega
    · obtain rfl : i = n := by omega
      have hb : bstT f i = rtoa (wst f i).1 := if_neg (by omega)
      rw [hb]
      have hw := HJ1.out.w.nx hB.out
      clear hb hB HY HNO HSQ HCM H1
      have h1 : rtoa (wst f i).1 = rtoa (wst f ls.length).1 := by rw [HLN.out]
      have h2 : (wst f i).2 = (wst f ls.length).2 := by rw [HLN.out]
      rw [h1, h2]
      clear h1 h2
      go_wp2
      go_ret3
      exact ⟨rfl, hw⟩
end Go.Proofs.Wk
/- POSITION: zones, the width that is needed, in the program. -/
namespace Go.Proofs.Wk
open Go.RowKit Mt Po

abbrev wst3 (x : Txt) (i E : Int) : Value := .tuple #[.string ⟨x.toArray⟩, .int .i64 i, .int .i64 E]
set_option maxRecDepth 100000 in
set_option maxHeartbeats 4000000 in
theorem within_err (c : Ca) (fv dv sv : Value) (tt : TT) (E : Int) (hE : E ≠ 0) (w : World) (HWO : ∀ W, Below w.heap.size w W → Calls Tryz.prog 40 #[caV c fv dv sv, ttV tt] W (Ret W (wst3 [] 0 E))) :
    Calls Tryz.prog 42 #[caV c fv dv sv, ttV tt] w (Ret w (.tuple #[.bool false, .int .i64 E])) := by
  have HG := Lib.hid HWO
  have h3 := bne_ne hE
  have hJ := Tw.new w (caC c fv dv sv).toList (ttC tt).toList 34 38
  obtain ⟨⟨nm, kind, axis, ⟨ax, ay, az⟩, lo, hi⟩, ⟨xk, disc, tol, mat⟩, b0⟩ := c
  simp only at hJ
  clear HWO hE
  go_enter Tryz.func42, Tryz.ntmps42
  go_upto_region 1 with fail
  generalize hW0 : (w.alloc (.cells #[.string ⟨nm.toArray⟩, .int .i64 kind, .int .i64 axis, .int .i64 ax, .int .i64 ay, .int .i64 az, .int .i64 lo, .int .i64 hi, fv, .int .i64 xk, .bool disc, .int .i64 tol, .int .i64 mat, dv, sv, .int .i64 b0] 34)).alloc (.cells (ttC tt) 38) = W0 at *
  clear hW0
  generalize w.heap.size + 1 = gt at *
  obtain ⟨c0, c1, c2, c3, c4, c5, c6, c7, c8, c9, ca, cb, cc, cd, ce, cf⟩ := c16row hJ.a
  obtain ⟨t0, t1, t2, t3, t4, t5⟩ := c6row hJ.b
  go_wp2_with fail
  ((with_reducible refine (HG.out _ hJ.w).mono ?_); rintro e w1 ⟨rfl, hb1⟩)
  have hw := hJ.w.nx hb1
  clear c0 c1 c2 c3 c4 c5 c6 c7 c8 c9 ca cb cc cd ce cf t0 t1 t2 t3 t4 t5 hJ hb1 HG
  go_wp2
  go_ret2
  exact ⟨rfl, hw⟩
set_option maxRecDepth 100000 in
set_option maxHeartbeats 4000000 in
theorem within_ok (c : Ca) (fv dv sv : Value) (tt : TT) (q : Rat) (i : Nat) (w : World) (hg : Good w) (hq : szV q 475 21) (ht : 0 ≤ c.x.tol ∧ c.x.tol ≤ 100000) (hb : 0 ≤ c.b ∧ c.b ≤ 100000)
    (HWO : ∀ W, Below w.heap.size w W → Calls Tryz.prog 40 #[caV c fv dv sv, ttV tt] W (Ret W (wst3 (rtoa q) i 0))) :
    Calls Tryz.prog 42 #[caV c fv dv sv, ttV tt] w (Ret w (.tuple #[.bool (fitB q (c.x.tol + c.b)), .int .i64 0])) := by
  have HG := Lib.hid HWO
  have HF := Lib.hid (fun W (h : Below w.heap.size w W) => pfits_c q (c.x.tol + c.b) W (hg.later h) hq (by omega))
  have hJ := Tw.new w (caC c fv dv sv).toList (ttC tt).toList 34 38
  obtain ⟨⟨nm, kind, axis, ⟨ax, ay, az⟩, lo, hi⟩, ⟨xk, disc, tol, mat⟩, b0⟩ := c
  simp only at hJ HF ht hb ⊢
  have hw : IntKind.i64.wrap (tol + b0) = tol + b0 := IntWalk.i64_in _ (by omega)
  obtain ⟨s, hs⟩ : ∃ s, tol + b0 = s := ⟨_, rfl⟩
  replace hw := hw.trans hs
  rw [hs] at HF ⊢
  generalize fitB q s = B at *
  generalize rtoa q = tq at *
  clear HWO hq hg ht hb hs
  go_enter Tryz.func42, Tryz.ntmps42
  go_upto_region 1 with fail
  generalize hW0 : (w.alloc (.cells #[.string ⟨nm.toArray⟩, .int .i64 kind, .int .i64 axis, .int .i64 ax, .int .i64 ay, .int .i64 az, .int .i64 lo, .int .i64 hi, fv, .int .i64 xk, .bool disc, .int .i64 tol, .int .i64 mat, dv, sv, .int .i64 b0] 34)).alloc (.cells (ttC tt) 38) = W0 at *
  clear hW0
  generalize w.heap.size + 1 = gt at *
  obtain ⟨c0, c1, c2, c3, c4, c5, c6, c7, c8, c9, ca, cb, cc, cd, ce, cf⟩ := c16row hJ.a
  obtain ⟨t0, t1, t2, t3, t4, t5⟩ := c6row hJ.b
  go_wp2_with fail
  ((with_reducible refine (HG.out _ hJ.w).mono ?_); rintro e w1 ⟨rfl, hb1⟩)
  have hJ1 := hJ.later hb1
  clear c0 c1 c2 c3 c4 c5 c6 c7 c8 c9 ca cb cc cd ce cf t0 t1 t2 t3 t4 t5 hJ hb1 HG
  obtain ⟨c0, c1, c2, c3, c4, c5, c6, c7, c8, c9, ca, cb, cc, cd, ce, cf⟩ := c16row hJ1.a
  have hw1 := hJ1.w
  clear c0 c1 c2 c3 c4 c5 c6 c7 c8 c9 ca cc cd ce hJ1
  go_wp2_with fail
  ((with_reducible refine (HF.out _ hw1).mono ?_); rintro e w2 ⟨rfl, hb2⟩)
  have hw2 := hw1.nx hb2
  go_wp2
  go_ret2
  exact ⟨rfl, hw2⟩
set_option maxRecDepth 100000 in
set_option maxHeartbeats 4000000 in
theorem needed_err (c : Ca) (fv dv sv : Value) (tt : TT) (E : Int) (hE : E ≠ 0) (w : World) (HWO : ∀ W, Below w.heap.size w W → Calls Tryz.prog 40 #[caV c fv dv sv, ttV tt] W (Ret W (wst3 [] 0 E))) :
    Calls Tryz.prog 43 #[caV c fv dv sv, ttV tt] w (Ret w (.tuple #[.int .i64 0, .int .i64 E])) := by
  have HG := Lib.hid HWO
  have h3 := bne_ne hE
  have hJ := Tw.new w (caC c fv dv sv).toList (ttC tt).toList 34 38
  obtain ⟨⟨nm, kind, axis, ⟨ax, ay, az⟩, lo, hi⟩, ⟨xk, disc, tol, mat⟩, b0⟩ := c
  simp only at hJ
  clear HWO hE
  go_enter Tryz.func43, Tryz.ntmps43
  go_upto_region 1 with fail
  generalize hW0 : (w.alloc (.cells #[.string ⟨nm.toArray⟩, .int .i64 kind, .int .i64 axis, .int .i64 ax, .int .i64 ay, .int .i64 az, .int .i64 lo, .int .i64 hi, fv, .int .i64 xk, .bool disc, .int .i64 tol, .int .i64 mat, dv, sv, .int .i64 b0] 34)).alloc (.cells (ttC tt) 38) = W0 at *
  clear hW0
  generalize w.heap.size + 1 = gt at *
  obtain ⟨c0, c1, c2, c3, c4, c5, c6, c7, c8, c9, ca, cb, cc, cd, ce, cf⟩ := c16row hJ.a
  obtain ⟨t0, t1, t2, t3, t4, t5⟩ := c6row hJ.b
  go_wp2_with fail
  ((with_reducible refine (HG.out _ hJ.w).mono ?_); rintro e w1 ⟨rfl, hb1⟩)
  have hw := hJ.w.nx hb1
  clear c0 c1 c2 c3 c4 c5 c6 c7 c8 c9 ca cb cc cd ce cf t0 t1 t2 t3 t4 t5 hJ hb1 HG
  go_wp2
  go_ret2
  exact ⟨rfl, hw⟩
end Go.Proofs.Wk
/- POSITION: the width that is needed, in the program. -/
namespace Go.Proofs.Wk
open Go.RowKit Mt Po

def nedV (q : Rat) : Value := if ned q ≤ 200000 then .tuple #[.int .i64 (ned q : Int), .int .i64 0] else .tuple #[.int .i64 0, .int .i64 11]
set_option maxRecDepth 100000 in
set_option maxHeartbeats 4000000 in
theorem needed_ok (c : Ca) (fv dv sv : Value) (tt : TT) (q : Rat) (i : Nat) (w : World) (hg : Good w) (hq : szV q 475 21)
    (HWO : ∀ W, Below w.heap.size w W → Calls Tryz.prog 40 #[caV c fv dv sv, ttV tt] W (Ret W (wst3 (rtoa q) i 0))) :
    Calls Tryz.prog 43 #[caV c fv dv sv, ttV tt] w (Ret w (nedV q)) := by
  have HG := Lib.hid HWO
  have HF := Lib.hid (fun (m : Nat) (hm : m ≤ 200000) W (h : Below w.heap.size w W) => by
    have := pfits_c q (m : Int) W (hg.later h) hq (by omega)
    rwa [show fitB q (m : Int) = decide (ned q ≤ m) from decide_eq_decide.2 (ned_iff hm)] at this)
  have hN := ned_le q
  obtain ⟨V, hV⟩ : ∃ V, nedV q = V := ⟨_, rfl⟩
  rw [hV]
  unfold nedV at hV
  generalize ned q = N at *
  have HV := Lib.hid hV
  clear hV
  have hJ := Tw.new w (caC c fv dv sv).toList (ttC tt).toList 34 38
  obtain ⟨⟨nm, kind, axis, ⟨ax, ay, az⟩, lo, hi⟩, ⟨xk, disc, tol, mat⟩, b0⟩ := c
  simp only at hJ
  generalize rtoa q = tq at *
  clear HWO hq hg
  go_enter Tryz.func43, Tryz.ntmps43
  go_upto_region 1 with fail
  generalize hW0 : (w.alloc (.cells #[.string ⟨nm.toArray⟩, .int .i64 kind, .int .i64 axis, .int .i64 ax, .int .i64 ay, .int .i64 az, .int .i64 lo, .int .i64 hi, fv, .int .i64 xk, .bool disc, .int .i64 tol, .int .i64 mat, dv, sv, .int .i64 b0] 34)).alloc (.cells (ttC tt) 38) = W0 at *
  clear hW0
  generalize w.heap.size + 1 = gt at *
  obtain ⟨c0, c1, c2, c3, c4, c5, c6, c7, c8, c9, ca, cb, cc, cd, ce, cf⟩ := c16row hJ.a
  obtain ⟨t0, t1, t2, t3, t4, t5⟩ := c6row hJ.b
  go_wp2_with fail
  ((with_reducible refine (HG.out _ hJ.w).mono ?_); rintro e w1 ⟨rfl, hb1⟩)
  have HJ1 := Lib.hid (hJ.w.nx hb1)
  clear c0 c1 c2 c3 c4 c5 c6 c7 c8 c9 ca cb cc cd ce cf t0 t1 t2 t3 t4 t5 hJ hb1 HG
  go_wp2_with fail
  go_loopw [9, 10] (fun sl sh wr => ∃ l h : Nat, sl = .int .i64 (l : Int) ∧ sh = .int .i64 (h : Int) ∧ l ≤ N ∧ N ≤ h ∧ h ≤ 200001 ∧ Hid (Below w1.heap.size w1 wr)) (fun sl sh _ => (intOf sh).toNat - (intOf sl).toNat)
  case atStart => exact ⟨0, 200001, rfl, rfl, Nat.zero_le _, hN, Nat.le_refl _, Below.refl _ _⟩
  case round =>
    obtain ⟨l, h, rfl, rfl, hl, hh, h2, hB⟩ := hrel
    by_cases hlt : l < h
    · have z0 : (l : Int) < (h : Int) := by omega
      have zw : IntKind.i64.wrap ((l : Int) + (h : Int)) = (l : Int) + (h : Int) := IntWalk.i64_in _ (by omega)
      obtain ⟨m, hm⟩ : ∃ m : Nat, m = (l + h) / 2 := ⟨_, rfl⟩
      have zq : ((l : Int) + (h : Int)).tdiv 2 = (m : Int) := by rw [hm]; rw [show ((l : Int) + (h : Int)) = ((l + h : Nat) : Int) by simp]; rfl
      have hm1 : l ≤ m ∧ m < h := by omega
      have hm2 : m ≤ 200000 := by omega
      have HF1 := Lib.hid (fun W h => HF.out m hm2 W h)
      have zq2 : ((l : Int) + (h : Int)) / 2 = (m : Int) := by omega
      clear zq
      rw [← zq2] at HF1
      have HZ := Lib.hid zq2
      clear zq2
      by_cases hc : N ≤ m
      · rw [decide_eq_true hc] at HF1
        go_wp2_with fail
        ((with_reducible refine (HF1.out _ (HJ1.out.nx hB.out)).mono ?_); rintro e w5 ⟨rfl, hb5⟩)
        have HB5 := Lib.hid (hB.out.nx hb5)
        clear hb5 hB HF1 hm
        go_wp2
        go_roundw
        case rel => exact ⟨l, m, rfl, by rw [HZ.out], hl, hc, by omega, HB5.out⟩
        case measure => simp [intOf, HZ.out]; omega
      · rw [decide_eq_false hc] at HF1
        go_wp2_with fail
        ((with_reducible refine (HF1.out _ (HJ1.out.nx hB.out)).mono ?_); rintro e w5 ⟨rfl, hb5⟩)
        have HB5 := Lib.hid (hB.out.nx hb5)
        clear hb5 hB HF1 hm
        go_wp2
        go_roundw
        case rel => exact ⟨m + 1, h, by rw [HZ.out]; go_num, rfl, by omega, hh, h2, HB5.out⟩
        case measure => simp [intOf, HZ.out]; omega
    · have hln : l = N := by omega
      have hhn : h = N := by omega
      subst hln
      have hw := HJ1.out.nx hB.out
      have z0 : ¬ (l : Int) < (h : Int) := by omega
      by_cases h3 : l ≤ 200000
      · obtain rfl : Value.tuple #[.int .i64 (l : Int), .int .i64 0] = V := by have := HV.out; rwa [if_pos h3] at this
        clear HV
        have z1 : ¬ (200000 : Int) < (l : Int) := by omega
        clear h3 hB
        go_wp2
        go_ret2
        exact ⟨rfl, hw⟩
      · obtain rfl : Value.tuple #[.int .i64 0, .int .i64 11] = V := by have := HV.out; rwa [if_neg h3] at this
        clear HV
        have z1 : (200000 : Int) < (l : Int) := by omega
        clear h3 hB
        go_wp2
        go_ret2
        exact ⟨rfl, hw⟩
end Go.Proofs.Wk
