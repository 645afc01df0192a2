/- STRAIGHTNESS: products of coordinates, in the program and in the reference. -/
import Derived.Test.YtjopphkhpmoedaaGreatDoorND
import Derived.Test.YtjopphkhpmoedaaGreatDoorHI
import Derived.Test.YtjopphkhpmoedaaGreatDoorHE
import Derived.Test.YtjopphkhpmoedaaGreatDoorHH
import Derived.Deep.RegionHeld3
namespace Go.Proofs.Wk
open Go.RowKit Mt

theorem wr {e u : Int} (q : e = u) (h : -9223372036854775808 ≤ e ∧ e ≤ 9223372036854775807) : IntKind.i64.wrap e = u := by rw [IntWalk.i64_in _ h]; exact q
/-- Two, three boxes. -/
theorem bx2 (w : World) (o1 o2 : Obj) : Below w.heap.size w ((w.alloc o1).alloc o2) := (below_al w o1).nx (below_al _ o2)
theorem bx3 (w : World) (o1 o2 o3 : Obj) : Below w.heap.size w (((w.alloc o1).alloc o2).alloc o3) := (bx2 w o1 o2).nx (below_al _ o3)
set_option maxRecDepth 100000 in
set_option maxHeartbeats 2000000 in
theorem left_g (a b p : St.Pt) (w : World) (ha : St.InP a) (hb : St.InP b) (hp : St.InP p) : Calls Tryz.prog 80 #[ptV a, ptV b, ptV p] w (Ret w (.int .i64 (St.left a b p))) := by
  obtain ⟨h1, h2, h3⟩ := St.left_bd ha hb hp
  have hB := bx3 w (.cells #[.int .i64 a.x, .int .i64 a.y] 37) (.cells #[.int .i64 b.x, .int .i64 b.y] 37) (.cells #[.int .i64 p.x, .int .i64 p.y] 37)
  obtain ⟨ax, ay⟩ := a
  obtain ⟨bx, by_⟩ := b
  obtain ⟨px, py⟩ := p
  obtain ⟨a1, a2, a3, a4⟩ := ha
  obtain ⟨b1, b2, b3, b4⟩ := hb
  obtain ⟨p1, p2, p3, p4⟩ := hp
  unfold St.left at h3 ⊢
  simp only at h1 h2 h3 hB a1 a2 a3 a4 b1 b2 b3 b4 p1 p2 p3 p4 ⊢
  obtain ⟨u1, q1⟩ : ∃ u, bx - ax = u := ⟨_, rfl⟩
  obtain ⟨u2, q2⟩ : ∃ u, py - ay = u := ⟨_, rfl⟩
  obtain ⟨u3, q3⟩ : ∃ u, by_ - ay = u := ⟨_, rfl⟩
  obtain ⟨u4, q4⟩ : ∃ u, px - ax = u := ⟨_, rfl⟩
  have j1 : IntKind.i64.wrap (bx - ax) = u1 := wr q1 (by omega)
  have j2 : IntKind.i64.wrap (py - ay) = u2 := wr q2 (by omega)
  have j3 : IntKind.i64.wrap (by_ - ay) = u3 := wr q3 (by omega)
  have j4 : IntKind.i64.wrap (px - ax) = u4 := wr q4 (by omega)
  rw [q1, q2] at h1
  rw [q3, q4] at h2
  rw [q1, q2, q3, q4] at h3 ⊢
  obtain ⟨m1, r1⟩ : ∃ u, u1 * u2 = u := ⟨_, rfl⟩
  obtain ⟨m2, r2⟩ : ∃ u, u3 * u4 = u := ⟨_, rfl⟩
  have j5 : IntKind.i64.wrap (u1 * u2) = m1 := wr r1 (by omega)
  have j6 : IntKind.i64.wrap (u3 * u4) = m2 := wr r2 (by omega)
  rw [r1, r2] at h3 ⊢
  obtain ⟨d, s1⟩ : ∃ u, m1 - m2 = u := ⟨_, rfl⟩
  have j7 : IntKind.i64.wrap (m1 - m2) = d := wr s1 (by omega)
  rw [s1]
  clear q1 q2 q3 q4 r1 r2 s1 h1 h2 h3 a1 a2 a3 a4 b1 b2 b3 b4 p1 p2 p3 p4
  go_enter Tryz.func80, Tryz.ntmps80
  go_wp2
  go_ret
  exact ⟨rfl, hB⟩
/-! ### Rational numbers of known sizes -/
theorem rtoa_int (n : Int) : rtoa (n : Rat) = Lib.itoa n := by unfold rtoa; exact if_pos rfl
theorem szQ_int {n : Int} {k : Nat} (hk : 0 < k) (h : n.natAbs < 10 ^ k) : szQ (n : Rat) k := ⟨lng_bd hk h, lng_bd hk (Nat.lt_of_lt_of_le (show 1 < 10 by decide) (Nat.pow_le_pow_right (n := 10) (by decide) hk))⟩
theorem cmpQ_lt (p q : Rat) : decide (cmpQ p q < 0) = decide (p < q) := by
  unfold cmpQ
  rw [decide_eq_decide, Rat.lt_iff]
  have := cmp_spec (p.num * q.den) (q.num * p.den)
  omega
theorem cmpQ_le (p q : Rat) : decide (cmpQ p q ≤ 0) = decide (p ≤ q) := by
  unfold cmpQ
  rw [decide_eq_decide, Rat.le_iff]
  have := cmp_spec (p.num * q.den) (q.num * p.den)
  omega
theorem cmpQ_gt (p q : Rat) : decide (0 < cmpQ p q) = decide (q < p) := by
  unfold cmpQ
  rw [decide_eq_decide, Rat.lt_iff]
  have := cmp_spec (p.num * q.den) (q.num * p.den)
  omega
theorem qMulR (p q : Rat) (w : World) (hg : Good w) (hp : szQ p 500) (hq : szQ q 500) : Calls Tryz.prog 126 #[.string ⟨(rtoa p).toArray⟩, .string ⟨(rtoa q).toArray⟩] w (Ret w (.tuple #[.string ⟨(rtoa (p * q)).toArray⟩, .int .i64 0])) := by
  have h := qMul_c (rtoa p) (rtoa q) w hg (tlen (hp.ok (by decide))) (tlen (hq.ok (by decide)))
  rw [rbin_ok _ _ (hp.ok (by decide)) (hq.ok (by decide)), mulQ_sz hp hq (by decide)] at h
  exact h
theorem qCmpR (p q : Rat) (w : World) (hg : Good w) (hp : szQ p 500) (hq : szQ q 500) : Calls Tryz.prog 36 #[.string ⟨(rtoa p).toArray⟩, .string ⟨(rtoa q).toArray⟩] w (Ret w (.tuple #[.int .i64 (cmpQ p q), .int .i64 0])) := by
  have h := qCompare_c (rtoa p) (rtoa q) w hg (tlen (hp.ok (by decide))) (tlen (hq.ok (by decide)))
  rw [rbin_ok _ _ (hp.ok (by decide)) (hq.ok (by decide)), cmpE_sz hp hq (by decide)] at h
  exact h
theorem qOfR (m n : Int) (w : World) (hg : Good w) (hm : -9223372036854775808 ≤ m ∧ m ≤ 9223372036854775807) (hn : -9223372036854775808 ≤ n ∧ n ≤ 9223372036854775807) (h0 : n ≠ 0) :
    Calls Tryz.prog 125 #[.int .i64 m, .int .i64 n] w (Ret w (.tuple #[.string ⟨(rtoa (Rat.divInt m n)).toArray⟩, .int .i64 0])) := by
  have h := qOf_c m n w hg hm.1 hm.2 hn.1 hn.2
  unfold makQ at h
  rw [if_neg h0] at h
  exact h
set_option maxRecDepth 100000 in
set_option maxHeartbeats 1000000 in
theorem sless_c (p q : Rat) (w : World) (hg : Good w) (hp : szQ p 500) (hq : szQ q 500) : Calls Tryz.prog 87 #[.string ⟨(rtoa p).toArray⟩, .string ⟨(rtoa q).toArray⟩] w (Ret w (.bool (decide (p < q)))) := by
  have HC := Lib.hid (qCmpR p q w hg hp hq)
  rw [← cmpQ_lt]
  generalize cmpQ p q = c at *
  go_enter Tryz.func87, Tryz.ntmps87
  go_wp2_with fail
  ((with_reducible refine (HC.out).mono ?_); rintro e w1 ⟨rfl, hb1⟩)
  go_wp2
  go_ret
  exact ⟨rfl, hb1⟩
set_option maxRecDepth 100000 in
set_option maxHeartbeats 2000000 in
theorem squared_g (n : Int) (a b : St.Pt) (w : World) (hg : Good w) (hn : -400000000000 ≤ n ∧ n ≤ 400000000000) (ha : St.InP a) (hb : St.InP b) (hne : a ≠ b) :
    Calls Tryz.prog 96 #[.int .i64 n, ptV a, ptV b] w (Ret w (.string ⟨(rtoa (St.wq n a b)).toArray⟩)) := by
  obtain ⟨h1, h2, h3⟩ := St.far_bd ha hb
  have hp := St.far_pos hne
  have HG := Lib.hid hg
  have hz : szQ (Rat.divInt n (St.far a b)) 24 := by
    refine szQ_divInt (lng_bd (by decide) ?_) (lng_bd (by decide) ?_) (by omega)
    · have e : (400000000000 : Nat) < 10 ^ 24 := by decide
      omega
    · have e : (80000000000 : Nat) < 10 ^ 24 := by decide
      omega
  have hzn : szQ (n : Rat) 24 := szQ_int (by decide) (by have e : (400000000000 : Nat) < 10 ^ 24 := by decide
                                                         omega)
  have hm := fun W hW => qMulR (Rat.divInt n (St.far a b)) (n : Rat) W hW (hz.mono (by decide)) (hzn.mono (by decide))
  rw [wq_made, rtoa_int] at hm
  have HM := Lib.hid hm
  have HO := Lib.hid (fun W hW => qOfR n (St.far a b) W hW (by omega) (by omega) (by omega))
  have HW := Lib.hid (fun W hW => qWhole_c n W hW (by omega) (by omega))
  have hB0 := bx2 w (.cells #[.int .i64 a.x, .int .i64 a.y] 37) (.cells #[.int .i64 b.x, .int .i64 b.y] 37)
  generalize rtoa (St.wq n a b) = T at *
  generalize rtoa (Rat.divInt n (St.far a b)) = D at *
  generalize Lib.itoa n = N at *
  clear hm hz hzn hne hp hg
  obtain ⟨ax, ay⟩ := a
  obtain ⟨bx, by_⟩ := b
  obtain ⟨a1, a2, a3, a4⟩ := ha
  obtain ⟨b1, b2, b3, b4⟩ := hb
  unfold St.far at h3 HO
  simp only at h1 h2 h3 hB0 HO a1 a2 a3 a4 b1 b2 b3 b4
  obtain ⟨u1, q1⟩ : ∃ u, bx - ax = u := ⟨_, rfl⟩
  obtain ⟨u3, q3⟩ : ∃ u, by_ - ay = u := ⟨_, rfl⟩
  have j1 : IntKind.i64.wrap (bx - ax) = u1 := wr q1 (by omega)
  have j3 : IntKind.i64.wrap (by_ - ay) = u3 := wr q3 (by omega)
  rw [q1] at h1
  rw [q3] at h2
  rw [q1, q3] at h3 HO
  obtain ⟨m1, r1⟩ : ∃ u, u1 * u1 = u := ⟨_, rfl⟩
  obtain ⟨m2, r2⟩ : ∃ u, u3 * u3 = u := ⟨_, rfl⟩
  have j5 : IntKind.i64.wrap (u1 * u1) = m1 := wr r1 (by omega)
  have j6 : IntKind.i64.wrap (u3 * u3) = m2 := wr r2 (by omega)
  rw [r1, r2] at h3 HO
  obtain ⟨d, s1⟩ : ∃ u, m1 + m2 = u := ⟨_, rfl⟩
  have j7 : IntKind.i64.wrap (m1 + m2) = d := wr s1 (by omega)
  rw [s1] at HO
  clear q1 q3 r1 r2 s1 h1 h2 h3 a1 a2 a3 a4 b1 b2 b3 b4
  go_enter Tryz.func96, Tryz.ntmps96
  go_wp2_with fail
  ((with_reducible refine (HO.out _ (HG.out.later hB0)).mono ?_); rintro e w1 ⟨rfl, hb1⟩)
  have hB1 := hB0.trans (hb1.mono hB0.size); clear hb1
  go_wp2_with fail
  ((with_reducible refine (HW.out _ (HG.out.later hB1)).mono ?_); rintro e w2 ⟨rfl, hb2⟩)
  have hB2 := hB1.trans (hb2.mono hB1.size); clear hb2
  go_wp2_with fail
  ((with_reducible refine (HM.out _ (HG.out.later hB2)).mono ?_); rintro e w3 ⟨rfl, hb3⟩)
  have hB3 := hB2.trans (hb3.mono hB2.size); clear hb3
  go_wp2
  go_ret
  exact ⟨rfl, hB3⟩
end Go.Proofs.Wk
/- STRAIGHTNESS: vectors in the reference. -/
namespace Go.Proofs.Wk
open Go.RowKit Mt

theorem new2 (w : World) (o1 o2 : Obj) : ((w.alloc o1).alloc o2).heap[w.heap.size + 1]? = some o2 := by
  have := heap_alloc_new (w.alloc o1) o2
  rwa [World.size_alloc] at this
theorem new3 (w : World) (o1 o2 o3 : Obj) : (((w.alloc o1).alloc o2).alloc o3).heap[w.heap.size + 1 + 1]? = some o3 := by
  have := heap_alloc_new ((w.alloc o1).alloc o2) o3
  rwa [World.size_alloc, World.size_alloc] at this
set_option maxRecDepth 100000 in
set_option maxHeartbeats 1000000 in
theorem rMinus_c (a b : St.Pt) (w : World) (ha : St.InP a) (hb : St.InP b) : Calls Tryz.prog 59 #[ptV a, ptV b] w (Ret w (ptV (St.sub a b))) := by
  obtain ⟨ax, ay⟩ := a
  obtain ⟨bx, by_⟩ := b
  obtain ⟨a1, a2, a3, a4⟩ := ha
  obtain ⟨b1, b2, b3, b4⟩ := hb
  unfold St.sub
  simp only at a1 a2 a3 a4 b1 b2 b3 b4 ⊢
  obtain ⟨u1, q1⟩ : ∃ u, ax - bx = u := ⟨_, rfl⟩
  obtain ⟨u3, q3⟩ : ∃ u, ay - by_ = u := ⟨_, rfl⟩
  have j1 : IntKind.i64.wrap (ax - bx) = u1 := wr q1 (by omega)
  have j3 : IntKind.i64.wrap (ay - by_) = u3 := wr q3 (by omega)
  rw [q1, q3]
  clear q1 q3 a1 a2 a3 a4 b1 b2 b3 b4
  go_enter Tryz.func59, Tryz.ntmps59
  go_wp2
  refine bodyPost_ret (results_cell_row rfl _ _ (w.heap.size + 1 + 1) 37 #[.int .i64 u1, .int .i64 u3] (0, 0) _ (by kernel_rfl) (new3 w _ _ _) Tryz.underlying37 rfl (by kernel_rfl)) rfl ?_
  exact ⟨rfl, bx3 w _ _ _⟩
set_option maxRecDepth 100000 in
set_option maxHeartbeats 1000000 in
theorem rTimes_c (a b : St.Pt) (k : Nat) (w : World) (ha : (-(k : Int) ≤ a.x ∧ a.x ≤ k) ∧ -(k : Int) ≤ a.y ∧ a.y ≤ k) (hb : (-(k : Int) ≤ b.x ∧ b.x ≤ k) ∧ -(k : Int) ≤ b.y ∧ b.y ≤ k) (hk : k ≤ 1000000000) :
    Calls Tryz.prog 58 #[ptV a, ptV b] w (Ret w (.int .i64 (St.dot a b))) := by
  have h1 := St.mul_bd ha.1 hb.1
  have h2 := St.mul_bd ha.2 hb.2
  have h3 : k * k ≤ 1000000000 * 1000000000 := Nat.mul_le_mul hk hk
  have hB := bx2 w (.cells #[.int .i64 a.x, .int .i64 a.y] 37) (.cells #[.int .i64 b.x, .int .i64 b.y] 37)
  obtain ⟨ax, ay⟩ := a
  obtain ⟨bx, by_⟩ := b
  unfold St.dot
  simp only at h1 h2 hB ⊢
  obtain ⟨m1, r1⟩ : ∃ u, ax * bx = u := ⟨_, rfl⟩
  obtain ⟨m2, r2⟩ : ∃ u, ay * by_ = u := ⟨_, rfl⟩
  have j5 : IntKind.i64.wrap (ax * bx) = m1 := wr r1 (by omega)
  have j6 : IntKind.i64.wrap (ay * by_) = m2 := wr r2 (by omega)
  rw [r1, r2]
  rw [r1] at h1
  rw [r2] at h2
  obtain ⟨d, s1⟩ : ∃ u, m1 + m2 = u := ⟨_, rfl⟩
  have j7 : IntKind.i64.wrap (m1 + m2) = d := wr s1 (by omega)
  rw [s1]
  clear r1 r2 s1 h1 h2 h3 ha hb
  go_enter Tryz.func58, Tryz.ntmps58
  go_wp2
  go_ret
  exact ⟨rfl, hB⟩
set_option maxRecDepth 100000 in
set_option maxHeartbeats 1000000 in
theorem rTurn_c (a b : St.Pt) (k : Nat) (w : World) (ha : (-(k : Int) ≤ a.x ∧ a.x ≤ k) ∧ -(k : Int) ≤ a.y ∧ a.y ≤ k) (hb : (-(k : Int) ≤ b.x ∧ b.x ≤ k) ∧ -(k : Int) ≤ b.y ∧ b.y ≤ k) (hk : k ≤ 1000000000) :
    Calls Tryz.prog 63 #[ptV a, ptV b] w (Ret w (.int .i64 (St.crs a b))) := by
  have h1 := St.mul_bd ha.1 hb.2
  have h2 := St.mul_bd ha.2 hb.1
  have h3 : k * k ≤ 1000000000 * 1000000000 := Nat.mul_le_mul hk hk
  have hB := bx2 w (.cells #[.int .i64 a.x, .int .i64 a.y] 37) (.cells #[.int .i64 b.x, .int .i64 b.y] 37)
  obtain ⟨ax, ay⟩ := a
  obtain ⟨bx, by_⟩ := b
  unfold St.crs
  simp only at h1 h2 hB ⊢
  obtain ⟨m1, r1⟩ : ∃ u, ax * by_ = u := ⟨_, rfl⟩
  obtain ⟨m2, r2⟩ : ∃ u, ay * bx = u := ⟨_, rfl⟩
  have j5 : IntKind.i64.wrap (ax * by_) = m1 := wr r1 (by omega)
  have j6 : IntKind.i64.wrap (ay * bx) = m2 := wr r2 (by omega)
  rw [r1, r2]
  rw [r1] at h1
  rw [r2] at h2
  obtain ⟨d, s1⟩ : ∃ u, m1 - m2 = u := ⟨_, rfl⟩
  have j7 : IntKind.i64.wrap (m1 - m2) = d := wr s1 (by omega)
  rw [s1]
  clear r1 r2 s1 h1 h2 h3 ha hb
  go_enter Tryz.func63, Tryz.ntmps63
  go_wp2
  go_ret
  exact ⟨rfl, hB⟩
theorem sub_bd {a b : St.Pt} (ha : St.InP a) (hb : St.InP b) : (-((200000 : Nat) : Int) ≤ (St.sub a b).x ∧ (St.sub a b).x ≤ ((200000 : Nat) : Int)) ∧ -((200000 : Nat) : Int) ≤ (St.sub a b).y ∧ (St.sub a b).y ≤ ((200000 : Nat) : Int) := by
  obtain ⟨a1, a2, a3, a4⟩ := ha
  obtain ⟨b1, b2, b3, b4⟩ := hb
  unfold St.sub
  simp only
  omega
/-- Three boxes, as facts. -/
structure Bx3 (w W : World) (p0 p1 p2 : St.Pt) : Prop where
  a : PtAt W w.heap.size 0 p0
  b : PtAt W (w.heap.size + 1) 0 p1
  c : PtAt W (w.heap.size + 1 + 1) 0 p2
  w : Below w.heap.size w W
theorem Bx3.mk' (w : World) (p0 p1 p2 : St.Pt) (t : TypeId) : Bx3 w (((w.alloc (.cells #[.int .i64 p0.x, .int .i64 p0.y] t)).alloc (.cells #[.int .i64 p1.x, .int .i64 p1.y] t)).alloc (.cells #[.int .i64 p2.x, .int .i64 p2.y] t)) p0 p1 p2 := by
  have h0 := PtAt.new w p0 t
  have h1 := PtAt.new (w.alloc (.cells #[.int .i64 p0.x, .int .i64 p0.y] t)) p1 t
  have h2 := PtAt.new ((w.alloc (.cells #[.int .i64 p0.x, .int .i64 p0.y] t)).alloc (.cells #[.int .i64 p1.x, .int .i64 p1.y] t)) p2 t
  have b1 := below_al (w.alloc (.cells #[.int .i64 p0.x, .int .i64 p0.y] t)) (.cells #[.int .i64 p1.x, .int .i64 p1.y] t)
  have b2 := below_al ((w.alloc (.cells #[.int .i64 p0.x, .int .i64 p0.y] t)).alloc (.cells #[.int .i64 p1.x, .int .i64 p1.y] t)) (.cells #[.int .i64 p2.x, .int .i64 p2.y] t)
  have h0' := (h0.later b1).later b2
  have h1' := h1.later b2
  simp only [World.size_alloc] at h1' h2
  exact ⟨h0', h1', h2, bx3 w _ _ _⟩
theorem Bx3.later {w W W' : World} {p0 p1 p2 : St.Pt} (h : Bx3 w W p0 p1 p2) (hb : Below W.heap.size W W') : Bx3 w W' p0 p1 p2 := ⟨h.a.later hb, h.b.later hb, h.c.later hb, h.w.nx hb⟩
theorem Bx3.drew {w W : World} {p0 p1 p2 : St.Pt} (h : Bx3 w W p0 p1 p2) : Bx3 w W.drew p0 p1 p2 := ⟨h.a.drew, h.b.drew, h.c.drew, h.w.drew⟩
theorem Bx3.s {w W : World} {ax ay bx by_ px py : Int} (h : Bx3 w W ⟨ax, ay⟩ ⟨bx, by_⟩ ⟨px, py⟩) : W.cell? ⟨w.heap.size, 0, none⟩ = some (.int .i64 ax) ∧ W.cell? ⟨w.heap.size, 1, none⟩ = some (.int .i64 ay) ∧
    W.cell? ⟨w.heap.size + 1, 0, none⟩ = some (.int .i64 bx) ∧ W.cell? ⟨w.heap.size + 1, 1, none⟩ = some (.int .i64 by_) ∧
    W.cell? ⟨w.heap.size + 1 + 1, 0, none⟩ = some (.int .i64 px) ∧ W.cell? ⟨w.heap.size + 1 + 1, 1, none⟩ = some (.int .i64 py) ∧ Bx3 w W ⟨ax, ay⟩ ⟨bx, by_⟩ ⟨px, py⟩ :=
  ⟨h.a.c0, h.a.c1, h.b.c0, h.b.c1, h.c.c0, h.c.c1, h⟩
structure Bx2 (w W : World) (p0 p1 : St.Pt) : Prop where
  a : PtAt W w.heap.size 0 p0
  b : PtAt W (w.heap.size + 1) 0 p1
  w : Below w.heap.size w W
theorem Bx2.mk' (w : World) (p0 p1 : St.Pt) (t : TypeId) : Bx2 w ((w.alloc (.cells #[.int .i64 p0.x, .int .i64 p0.y] t)).alloc (.cells #[.int .i64 p1.x, .int .i64 p1.y] t)) p0 p1 := by
  have h0 := PtAt.new w p0 t
  have h1 := PtAt.new (w.alloc (.cells #[.int .i64 p0.x, .int .i64 p0.y] t)) p1 t
  have b1 := below_al (w.alloc (.cells #[.int .i64 p0.x, .int .i64 p0.y] t)) (.cells #[.int .i64 p1.x, .int .i64 p1.y] t)
  have h0' := h0.later b1
  simp only [World.size_alloc] at h1
  exact ⟨h0', h1, bx2 w _ _⟩
theorem Bx2.later {w W W' : World} {p0 p1 : St.Pt} (h : Bx2 w W p0 p1) (hb : Below W.heap.size W W') : Bx2 w W' p0 p1 := ⟨h.a.later hb, h.b.later hb, h.w.nx hb⟩
theorem Bx2.drew {w W : World} {p0 p1 : St.Pt} (h : Bx2 w W p0 p1) : Bx2 w W.drew p0 p1 := ⟨h.a.drew, h.b.drew, h.w.drew⟩
set_option maxRecDepth 100000 in
set_option maxHeartbeats 2000000 in
theorem rLeft_c (a b p : St.Pt) (w : World) (ha : St.InP a) (hb : St.InP b) (hp : St.InP p) : Calls Tryz.prog 24 #[ptV a, ptV b, ptV p] w (Ret w (.int .i64 (St.left a b p))) := by
  have H1 := Lib.hid (fun W => rMinus_c b a W hb ha)
  have H2 := Lib.hid (fun W => rMinus_c p a W hp ha)
  have h3 := fun W => rTurn_c (St.sub b a) (St.sub p a) 200000 W (sub_bd hb ha) (sub_bd hp ha) (by decide)
  rw [← St.left_crs] at h3
  have H3 := Lib.hid h3
  have hx := Bx3.mk' w a b p 37
  generalize St.sub b a = u at *
  generalize St.sub p a = v at *
  generalize St.left a b p = n at *
  clear h3 ha hb hp
  obtain ⟨ax, ay⟩ := a
  obtain ⟨bx, by_⟩ := b
  obtain ⟨px, py⟩ := p
  obtain ⟨ux, uy⟩ := u
  obtain ⟨vx, vy⟩ := v
  simp only at hx
  go_enter Tryz.func24, Tryz.ntmps24
  go_wp2_with fail
  generalize (((w.alloc (.cells #[.int .i64 ax, .int .i64 ay] 37)).alloc (.cells #[.int .i64 bx, .int .i64 by_] 37)).alloc (.cells #[.int .i64 px, .int .i64 py] 37)) = W at *
  go_region_held3 (fun w' => w'.cell? ⟨w.heap.size, 0, none⟩ = some (.int .i64 ax) ∧ w'.cell? ⟨w.heap.size, 1, none⟩ = some (.int .i64 ay) ∧
      w'.cell? ⟨w.heap.size + 1, 0, none⟩ = some (.int .i64 bx) ∧ w'.cell? ⟨w.heap.size + 1, 1, none⟩ = some (.int .i64 by_) ∧
      w'.cell? ⟨w.heap.size + 1 + 1, 0, none⟩ = some (.int .i64 px) ∧ w'.cell? ⟨w.heap.size + 1 + 1, 1, none⟩ = some (.int .i64 py) ∧ Bx3 w w' ⟨ax, ay⟩ ⟨bx, by_⟩ ⟨px, py⟩)
    (first | exact J3.s | exact J2.s | exact J1.s | exact hx.s | exact hx.drew.s)
    (first
      | (go_at_call 59; (with_reducible refine (H1.out _).mono ?_); rintro e w1 ⟨rfl, hb1⟩; (first | have J1 := hx.drew.later hb1 | have J1 := hx.later hb1))
      | (go_at_call 59; (with_reducible refine (H2.out _).mono ?_); rintro e w2 ⟨rfl, hb2⟩; have J2 := J1.later hb2)
      | (go_at_call 63; (with_reducible refine (H3.out _).mono ?_); rintro e w3 ⟨rfl, hb3⟩; have J3 := J2.later hb3)
      | fail)
  all_goals
    go_wp2
    go_ret
    exact ⟨rfl, J3.w⟩
end Go.Proofs.Wk
/- STRAIGHTNESS: distances from a line in the reference; vectors of package hull. -/
namespace Go.Proofs.Wk
open Go.RowKit Mt

theorem Bx2.s {w W : World} {ax ay bx by_ : Int} (h : Bx2 w W ⟨ax, ay⟩ ⟨bx, by_⟩) : W.cell? ⟨w.heap.size, 0, none⟩ = some (.int .i64 ax) ∧ W.cell? ⟨w.heap.size, 1, none⟩ = some (.int .i64 ay) ∧
    W.cell? ⟨w.heap.size + 1, 0, none⟩ = some (.int .i64 bx) ∧ W.cell? ⟨w.heap.size + 1, 1, none⟩ = some (.int .i64 by_) ∧ Bx2 w W ⟨ax, ay⟩ ⟨bx, by_⟩ :=
  ⟨h.a.c0, h.a.c1, h.b.c0, h.b.c1, h⟩
set_option maxRecDepth 100000 in
set_option maxHeartbeats 2000000 in
theorem rFar_c (a b : St.Pt) (w : World) (ha : St.InP a) (hb : St.InP b) : Calls Tryz.prog 22 #[ptV a, ptV b] w (Ret w (.int .i64 (St.far a b))) := by
  have H1 := Lib.hid (fun W => rMinus_c a b W ha hb)
  have h3 := fun W => rTimes_c (St.sub a b) (St.sub a b) 200000 W (sub_bd ha hb) (sub_bd ha hb) (by decide)
  rw [← St.far_dot, St.far_swap] at h3
  have H3 := Lib.hid h3
  have hx := Bx2.mk' w a b 37
  generalize St.sub a b = u at *
  generalize St.far a b = n at *
  clear h3 ha hb
  obtain ⟨ax, ay⟩ := a
  obtain ⟨bx, by_⟩ := b
  obtain ⟨ux, uy⟩ := u
  simp only at hx
  go_enter Tryz.func22, Tryz.ntmps22
  go_wp2_with fail
  generalize ((w.alloc (.cells #[.int .i64 ax, .int .i64 ay] 37)).alloc (.cells #[.int .i64 bx, .int .i64 by_] 37)) = W at *
  go_region_held3 (fun w' => w'.cell? ⟨w.heap.size, 0, none⟩ = some (.int .i64 ax) ∧ w'.cell? ⟨w.heap.size, 1, none⟩ = some (.int .i64 ay) ∧
      w'.cell? ⟨w.heap.size + 1, 0, none⟩ = some (.int .i64 bx) ∧ w'.cell? ⟨w.heap.size + 1, 1, none⟩ = some (.int .i64 by_) ∧ Bx2 w w' ⟨ax, ay⟩ ⟨bx, by_⟩)
    (first | exact J3.s | exact J2.s | exact J1.s | exact hx.s | exact hx.drew.s)
    (first
      | (go_at_call 58; (with_reducible refine (H3.out _).mono ?_); rintro e w3 ⟨rfl, hb3⟩; have J3 := J2.later hb3)
      | (go_at_call 59; (with_reducible refine (H1.out _).mono ?_); rintro e w1 ⟨rfl, hb1⟩; (first | have J2 := J1.later hb1 | have J1 := hx.drew.later hb1 | have J1 := hx.later hb1))
      | fail)
  all_goals
    go_wp2
    go_ret
    exact ⟨rfl, J3.w⟩
set_option maxRecDepth 100000 in
set_option maxHeartbeats 2000000 in
theorem rRatio_c (n d : Int) (w : World) (hn : -400000000000 ≤ n ∧ n ≤ 400000000000) (hd : 0 < d ∧ d ≤ 80000000000) : Calls Tryz.prog 23 #[.int .i64 n, .int .i64 d] w (Ret w (.string ⟨(rtoa (Rat.divInt (n * n) d)).toArray⟩)) := by
  have ln : lng n ≤ 24 := lng_bd (by decide) (by have e : (400000000000 : Nat) < 10 ^ 24 := by decide
                                                 omega)
  have ld : lng d ≤ 24 := lng_bd (by decide) (by have e : (80000000000 : Nat) < 10 ^ 24 := by decide
                                                 omega)
  have lnn : lng (n * n) ≤ 24 := by
    refine lng_bd (by decide) ?_
    have := St.mul_bd (x := n) (y := n) (k := 400000000000) (m := 400000000000) (by omega) (by omega)
    have e : (400000000000 * 400000000000 : Nat) < 10 ^ 24 := by decide
    omega
  have H1 := Lib.hid (fun W => Of_c n W (by omega) (by omega))
  have H2 := Lib.hid (fun W => Times_c n n W (by omega) (by omega))
  have H3 := Lib.hid (fun W => Of_c d W (by omega) (by omega))
  have H4 := Lib.hid (fun W => Lowest_c (n * n) d W (by omega) (by omega) (by omega))
  have hB0 := Below.refl w.heap.size w
  clear ln ld lnn hn hd
  generalize rtoa (Rat.divInt (n * n) d) = T at *
  generalize Lib.itoa n = tn at *
  generalize Lib.itoa d = td at *
  generalize Lib.itoa (n * n) = tnn at *
  go_enter Tryz.func23, Tryz.ntmps23
  go_wp2_with fail
  ((with_reducible refine (H1.out _).mono ?_); rintro e w1 ⟨rfl, hb1⟩)
  have hB1 := hB0.trans (hb1.mono hB0.size); clear hb1
  go_wp2_with fail
  ((with_reducible refine (H2.out _).mono ?_); rintro e w2 ⟨rfl, hb2⟩)
  have hB2 := hB1.trans (hb2.mono hB1.size); clear hb2
  go_wp2_with fail
  ((with_reducible refine (H3.out _).mono ?_); rintro e w3 ⟨rfl, hb3⟩)
  have hB3 := hB2.trans (hb3.mono hB2.size); clear hb3
  go_wp2_with fail
  ((with_reducible refine (H4.out _).mono ?_); rintro e w4 ⟨rfl, hb4⟩)
  have hB4 := hB3.trans (hb4.mono hB3.size); clear hb4
  go_wp2
  go_ret
  exact ⟨rfl, hB4⟩
set_option maxRecDepth 100000 in
set_option maxHeartbeats 2000000 in
theorem rFromLine_c (p a b : St.Pt) (w : World) (hp : St.InP p) (ha : St.InP a) (hb : St.InP b) (hne : a ≠ b) : Calls Tryz.prog 119 #[ptV p, ptV a, ptV b] w (Ret w (.string ⟨(rtoa (St.wq (St.left a b p) a b)).toArray⟩)) := by
  obtain ⟨-, -, h1⟩ := St.left_bd ha hb hp
  obtain ⟨-, -, h2⟩ := St.far_bd ha hb
  have h3 := St.far_pos hne
  have H1 := Lib.hid (fun W => rLeft_c a b p W ha hb hp)
  have H2 := Lib.hid (fun W => rFar_c a b W ha hb)
  have H3 := Lib.hid (fun W => rRatio_c (St.left a b p) (St.far a b) W (by omega) (by omega))
  have hx := Bx3.mk' w p a b 37
  unfold St.wq
  generalize St.left a b p = n at *
  generalize St.far a b = d at *
  generalize rtoa (Rat.divInt (n * n) d) = T at *
  clear h1 h2 h3 ha hb hp hne
  obtain ⟨ax, ay⟩ := a
  obtain ⟨bx, by_⟩ := b
  obtain ⟨px, py⟩ := p
  simp only at hx
  go_enter Tryz.func119, Tryz.ntmps119
  go_wp2_with fail
  generalize (((w.alloc (.cells #[.int .i64 px, .int .i64 py] 37)).alloc (.cells #[.int .i64 ax, .int .i64 ay] 37)).alloc (.cells #[.int .i64 bx, .int .i64 by_] 37)) = W at *
  go_region_held3 (fun w' => w'.cell? ⟨w.heap.size, 0, none⟩ = some (.int .i64 px) ∧ w'.cell? ⟨w.heap.size, 1, none⟩ = some (.int .i64 py) ∧
      w'.cell? ⟨w.heap.size + 1, 0, none⟩ = some (.int .i64 ax) ∧ w'.cell? ⟨w.heap.size + 1, 1, none⟩ = some (.int .i64 ay) ∧
      w'.cell? ⟨w.heap.size + 1 + 1, 0, none⟩ = some (.int .i64 bx) ∧ w'.cell? ⟨w.heap.size + 1 + 1, 1, none⟩ = some (.int .i64 by_) ∧ Bx3 w w' ⟨px, py⟩ ⟨ax, ay⟩ ⟨bx, by_⟩)
    (first | exact J3.s | exact J2.s | exact J1.s | exact hx.s | exact hx.drew.s)
    (first
      | (go_at_call 24; (with_reducible refine (H1.out _).mono ?_); rintro e w1 ⟨rfl, hb1⟩; (first | have J1 := hx.drew.later hb1 | have J1 := hx.later hb1))
      | (go_at_call 22; (with_reducible refine (H2.out _).mono ?_); rintro e w2 ⟨rfl, hb2⟩; have J2 := J1.later hb2)
      | (go_at_call 23; (with_reducible refine (H3.out _).mono ?_); rintro e w3 ⟨rfl, hb3⟩; have J3 := J2.later hb3)
      | fail)
  all_goals
    go_wp2
    go_ret
    exact ⟨rfl, J3.w⟩
set_option maxRecDepth 100000 in
set_option maxHeartbeats 1000000 in
theorem hless_c (a b : St.Pt) (w : World) (ha : St.InP a) (hb : St.InP b) : Calls Tryz.prog 120 #[ptV a, ptV b] w (Ret w (ptV (St.sub a b))) := by
  obtain ⟨ax, ay⟩ := a
  obtain ⟨bx, by_⟩ := b
  obtain ⟨a1, a2, a3, a4⟩ := ha
  obtain ⟨b1, b2, b3, b4⟩ := hb
  unfold St.sub
  simp only at a1 a2 a3 a4 b1 b2 b3 b4 ⊢
  obtain ⟨u1, q1⟩ : ∃ u, ax - bx = u := ⟨_, rfl⟩
  obtain ⟨u3, q3⟩ : ∃ u, ay - by_ = u := ⟨_, rfl⟩
  have j1 : IntKind.i64.wrap (ax - bx) = u1 := wr q1 (by omega)
  have j3 : IntKind.i64.wrap (ay - by_) = u3 := wr q3 (by omega)
  rw [q1, q3]
  clear q1 q3 a1 a2 a3 a4 b1 b2 b3 b4
  go_enter Tryz.func120, Tryz.ntmps120
  go_wp2
  refine bodyPost_ret (results_cell_row rfl _ _ (w.heap.size + 1 + 1) 37 #[.int .i64 u1, .int .i64 u3] (0, 0) _ (by kernel_rfl) (new3 w _ _ _) Tryz.underlying37 rfl (by kernel_rfl)) rfl ?_
  exact ⟨rfl, bx3 w _ _ _⟩
set_option maxRecDepth 100000 in
set_option maxHeartbeats 1000000 in
theorem hdot_c (a b : St.Pt) (k : Nat) (w : World) (ha : (-(k : Int) ≤ a.x ∧ a.x ≤ k) ∧ -(k : Int) ≤ a.y ∧ a.y ≤ k) (hb : (-(k : Int) ≤ b.x ∧ b.x ≤ k) ∧ -(k : Int) ≤ b.y ∧ b.y ≤ k) (hk : k ≤ 1000000000) :
    Calls Tryz.prog 121 #[ptV a, ptV b] w (Ret w (.int .i64 (St.dot a b))) := by
  have h1 := St.mul_bd ha.1 hb.1
  have h2 := St.mul_bd ha.2 hb.2
  have h3 : k * k ≤ 1000000000 * 1000000000 := Nat.mul_le_mul hk hk
  have hB := bx2 w (.cells #[.int .i64 a.x, .int .i64 a.y] 37) (.cells #[.int .i64 b.x, .int .i64 b.y] 37)
  obtain ⟨ax, ay⟩ := a
  obtain ⟨bx, by_⟩ := b
  unfold St.dot
  simp only at h1 h2 hB ⊢
  obtain ⟨m1, r1⟩ : ∃ u, ax * bx = u := ⟨_, rfl⟩
  obtain ⟨m2, r2⟩ : ∃ u, ay * by_ = u := ⟨_, rfl⟩
  have j5 : IntKind.i64.wrap (ax * bx) = m1 := wr r1 (by omega)
  have j6 : IntKind.i64.wrap (ay * by_) = m2 := wr r2 (by omega)
  rw [r1, r2]
  rw [r1] at h1
  rw [r2] at h2
  obtain ⟨d, s1⟩ : ∃ u, m1 + m2 = u := ⟨_, rfl⟩
  have j7 : IntKind.i64.wrap (m1 + m2) = d := wr s1 (by omega)
  rw [s1]
  clear r1 r2 s1 h1 h2 h3 ha hb
  go_enter Tryz.func121, Tryz.ntmps121
  go_wp2
  go_ret
  exact ⟨rfl, hB⟩
end Go.Proofs.Wk
