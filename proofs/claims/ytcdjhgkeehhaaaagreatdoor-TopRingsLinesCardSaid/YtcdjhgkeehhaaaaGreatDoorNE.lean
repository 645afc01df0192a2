/- STRAIGHTNESS: products of coordinates, in the program and in the reference. -/
import Derived.Test.YtcdjhgkeehhaaaaGreatDoorND
import Derived.Test.YtcdjhgkeehhaaaaGreatDoorHI
import Derived.Test.YtcdjhgkeehhaaaaGreatDoorHE
import Derived.Test.YtcdjhgkeehhaaaaGreatDoorHH
import Derived.Deep.RegionHeld3
import Derived.Test.YtcdjhgkeehhaaaaGreatDoorRes
import Derived.Laws.StructEq
namespace Go.Proofs.Wk
open Go.RowKit Mt

theorem wr {e u : Int} (q : e = u) (h : -9223372036854775808 ≤ e ∧ e ≤ 9223372036854775807) : IntKind.i64.wrap e = u := by rw [IntWalk.i64_in _ h]; exact q
/-- Two, three boxes. -/
theorem bx2 (w : World) (o1 o2 : Obj) : Below w.heap.size w ((w.alloc o1).alloc o2) := (below_al w o1).nx (below_al _ o2)
theorem bx3 (w : World) (o1 o2 o3 : Obj) : Below w.heap.size w (((w.alloc o1).alloc o2).alloc o3) := (bx2 w o1 o2).nx (below_al _ o3)
set_option maxRecDepth 100000 in
set_option maxHeartbeats 2000000 in
theorem left_g (a b p : St.Pt) (w : World) (ha : St.InP a) (hb : St.InP b) (hp : St.InP p) : Calls Tryz.prog 91 #[ptV a, ptV b, ptV p] w (Ret w (.int .i64 (St.left a b p))) := by
  obtain ⟨h1, h2, h3⟩ := St.left_bd ha hb hp
  have hB := bx3 w (.cells #[.int .i64 a.x, .int .i64 a.y] 24) (.cells #[.int .i64 b.x, .int .i64 b.y] 24) (.cells #[.int .i64 p.x, .int .i64 p.y] 24)
  obtain ⟨ax, ay⟩ := a
  obtain ⟨bx, by_⟩ := b
  obtain ⟨px, py⟩ := p
  obtain ⟨a1, a2, a3, a4⟩ := ha
  obtain ⟨b1, b2, b3, b4⟩ := hb
  obtain ⟨p1, p2, p3, p4⟩ := hp
  unfold St.left at h3 ⊢
  simp only at h1 h2 h3 hB a1 a2 a3 a4 b1 b2 b3 b4 p1 p2 p3 p4 ⊢
  obtain ⟨u1, q1⟩ : ∃ u, bx - ax = u := ⟨_, rfl⟩
  obtain ⟨u2, q2⟩ : ∃ u, py - ay = u := ⟨_, rfl⟩
  obtain ⟨u3, q3⟩ : ∃ u, by_ - ay = u := ⟨_, rfl⟩
  obtain ⟨u4, q4⟩ : ∃ u, px - ax = u := ⟨_, rfl⟩
  have j1 : IntKind.i64.wrap (bx - ax) = u1 := wr q1 (by omega)
  have j2 : IntKind.i64.wrap (py - ay) = u2 := wr q2 (by omega)
  have j3 : IntKind.i64.wrap (by_ - ay) = u3 := wr q3 (by omega)
  have j4 : IntKind.i64.wrap (px - ax) = u4 := wr q4 (by omega)
  rw [q1, q2] at h1
  rw [q3, q4] at h2
  rw [q1, q2, q3, q4] at h3 ⊢
  obtain ⟨m1, r1⟩ : ∃ u, u1 * u2 = u := ⟨_, rfl⟩
  obtain ⟨m2, r2⟩ : ∃ u, u3 * u4 = u := ⟨_, rfl⟩
  have j5 : IntKind.i64.wrap (u1 * u2) = m1 := wr r1 (by omega)
  have j6 : IntKind.i64.wrap (u3 * u4) = m2 := wr r2 (by omega)
  rw [r1, r2] at h3 ⊢
  obtain ⟨d, s1⟩ : ∃ u, m1 - m2 = u := ⟨_, rfl⟩
  have j7 : IntKind.i64.wrap (m1 - m2) = d := wr s1 (by omega)
  rw [s1]
  clear q1 q2 q3 q4 r1 r2 s1 h1 h2 h3 a1 a2 a3 a4 b1 b2 b3 b4 p1 p2 p3 p4
  go_enter Tryz.func91, Tryz.ntmps91
  go_wp2
  go_ret
  exact ⟨rfl, hB⟩
/-! ### Rational numbers of known sizes -/
theorem rtoa_int (n : Int) : rtoa (n : Rat) = Lib.itoa n := by unfold rtoa; exact if_pos rfl
theorem szQ_int {n : Int} {k : Nat} (hk : 0 < k) (h : n.natAbs < 10 ^ k) : szQ (n : Rat) k := ⟨lng_bd hk h, lng_bd hk (Nat.lt_of_lt_of_le (show 1 < 10 by decide) (Nat.pow_le_pow_right (n := 10) (by decide) hk))⟩
theorem cmpQ_lt (p q : Rat) : decide (cmpQ p q < 0) = decide (p < q) := by
  unfold cmpQ
  rw [decide_eq_decide, Rat.lt_iff]
  have := cmp_spec (p.num * q.den) (q.num * p.den)
  omega
theorem cmpQ_le (p q : Rat) : decide (cmpQ p q ≤ 0) = decide (p ≤ q) := by
  unfold cmpQ
  rw [decide_eq_decide, Rat.le_iff]
  have := cmp_spec (p.num * q.den) (q.num * p.den)
  omega
theorem cmpQ_gt (p q : Rat) : decide (0 < cmpQ p q) = decide (q < p) := by
  unfold cmpQ
  rw [decide_eq_decide, Rat.lt_iff]
  have := cmp_spec (p.num * q.den) (q.num * p.den)
  omega
theorem qMulR (p q : Rat) (w : World) (hg : Good w) (hp : szQ p 500) (hq : szQ q 500) : Calls Tryz.prog 90 #[.string ⟨(rtoa p).toArray⟩, .string ⟨(rtoa q).toArray⟩] w (Ret w (.tuple #[.string ⟨(rtoa (p * q)).toArray⟩, .int .i64 0])) := by
  have h := qMul_c (rtoa p) (rtoa q) w hg (tlen (hp.ok (by decide))) (tlen (hq.ok (by decide)))
  rw [rbin_ok _ _ (hp.ok (by decide)) (hq.ok (by decide)), mulQ_sz hp hq (by decide)] at h
  exact h
theorem qCmpR (p q : Rat) (w : World) (hg : Good w) (hp : szQ p 500) (hq : szQ q 500) : Calls Tryz.prog 8 #[.string ⟨(rtoa p).toArray⟩, .string ⟨(rtoa q).toArray⟩] w (Ret w (.tuple #[.int .i64 (cmpQ p q), .int .i64 0])) := by
  have h := qCompare_c (rtoa p) (rtoa q) w hg (tlen (hp.ok (by decide))) (tlen (hq.ok (by decide)))
  rw [rbin_ok _ _ (hp.ok (by decide)) (hq.ok (by decide)), cmpE_sz hp hq (by decide)] at h
  exact h
theorem qOfR (m n : Int) (w : World) (hg : Good w) (hm : -9223372036854775808 ≤ m ∧ m ≤ 9223372036854775807) (hn : -9223372036854775808 ≤ n ∧ n ≤ 9223372036854775807) (h0 : n ≠ 0) :
    Calls Tryz.prog 89 #[.int .i64 m, .int .i64 n] w (Ret w (.tuple #[.string ⟨(rtoa (Rat.divInt m n)).toArray⟩, .int .i64 0])) := by
  have h := qOf_c m n w hg hm.1 hm.2 hn.1 hn.2
  unfold makQ at h
  rw [if_neg h0] at h
  exact h
set_option maxRecDepth 100000 in
set_option maxHeartbeats 1000000 in
theorem sless_c (p q : Rat) (w : World) (hg : Good w) (hp : szQ p 500) (hq : szQ q 500) : Calls Tryz.prog 27 #[.string ⟨(rtoa p).toArray⟩, .string ⟨(rtoa q).toArray⟩] w (Ret w (.bool (decide (p < q)))) := by
  have HC := Lib.hid (qCmpR p q w hg hp hq)
  rw [← cmpQ_lt]
  generalize cmpQ p q = c at *
  go_enter Tryz.func27, Tryz.ntmps27
  go_wp2_with fail
  ((with_reducible refine (HC.out).mono ?_); rintro e w1 ⟨rfl, hb1⟩)
  go_wp2
  go_ret
  exact ⟨rfl, hb1⟩
set_option maxRecDepth 100000 in
set_option maxHeartbeats 2000000 in
theorem squared_g (n : Int) (a b : St.Pt) (w : World) (hg : Good w) (hn : -400000000000 ≤ n ∧ n ≤ 400000000000) (ha : St.InP a) (hb : St.InP b) (hne : a ≠ b) :
    Calls Tryz.prog 52 #[.int .i64 n, ptV a, ptV b] w (Ret w (.string ⟨(rtoa (St.wq n a b)).toArray⟩)) := by
  obtain ⟨h1, h2, h3⟩ := St.far_bd ha hb
  have hp := St.far_pos hne
  have HG := Lib.hid hg
  have hz : szQ (Rat.divInt n (St.far a b)) 24 := by
    refine szQ_divInt (lng_bd (by decide) ?_) (lng_bd (by decide) ?_) (by omega)
    · have e : (400000000000 : Nat) < 10 ^ 24 := by decide
      omega
    · have e : (80000000000 : Nat) < 10 ^ 24 := by decide
      omega
  have hzn : szQ (n : Rat) 24 := szQ_int (by decide) (by have e : (400000000000 : Nat) < 10 ^ 24 := by decide
                                                         omega)
  have hm := fun W hW => qMulR (Rat.divInt n (St.far a b)) (n : Rat) W hW (hz.mono (by decide)) (hzn.mono (by decide))
  rw [wq_made, rtoa_int] at hm
  have HM := Lib.hid hm
  have HO := Lib.hid (fun W hW => qOfR n (St.far a b) W hW (by omega) (by omega) (by omega))
  have HW := Lib.hid (fun W hW => qWhole_c n W hW (by omega) (by omega))
  have hB0 := bx2 w (.cells #[.int .i64 a.x, .int .i64 a.y] 24) (.cells #[.int .i64 b.x, .int .i64 b.y] 24)
  generalize rtoa (St.wq n a b) = T at *
  generalize rtoa (Rat.divInt n (St.far a b)) = D at *
  generalize Lib.itoa n = N at *
  clear hm hz hzn hne hp hg
  obtain ⟨ax, ay⟩ := a
  obtain ⟨bx, by_⟩ := b
  obtain ⟨a1, a2, a3, a4⟩ := ha
  obtain ⟨b1, b2, b3, b4⟩ := hb
  unfold St.far at h3 HO
  simp only at h1 h2 h3 hB0 HO a1 a2 a3 a4 b1 b2 b3 b4
  obtain ⟨u1, q1⟩ : ∃ u, bx - ax = u := ⟨_, rfl⟩
  obtain ⟨u3, q3⟩ : ∃ u, by_ - ay = u := ⟨_, rfl⟩
  have j1 : IntKind.i64.wrap (bx - ax) = u1 := wr q1 (by omega)
  have j3 : IntKind.i64.wrap (by_ - ay) = u3 := wr q3 (by omega)
  rw [q1] at h1
  rw [q3] at h2
  rw [q1, q3] at h3 HO
  obtain ⟨m1, r1⟩ : ∃ u, u1 * u1 = u := ⟨_, rfl⟩
  obtain ⟨m2, r2⟩ : ∃ u, u3 * u3 = u := ⟨_, rfl⟩
  have j5 : IntKind.i64.wrap (u1 * u1) = m1 := wr r1 (by omega)
  have j6 : IntKind.i64.wrap (u3 * u3) = m2 := wr r2 (by omega)
  rw [r1, r2] at h3 HO
  obtain ⟨d, s1⟩ : ∃ u, m1 + m2 = u := ⟨_, rfl⟩
  have j7 : IntKind.i64.wrap (m1 + m2) = d := wr s1 (by omega)
  rw [s1] at HO
  clear q1 q3 r1 r2 s1 h1 h2 h3 a1 a2 a3 a4 b1 b2 b3 b4
  go_enter Tryz.func52, Tryz.ntmps52
  go_wp2_with fail
  ((with_reducible refine (HO.out _ (HG.out.later hB0)).mono ?_); rintro e w1 ⟨rfl, hb1⟩)
  have hB1 := hB0.trans (hb1.mono hB0.size); clear hb1
  go_wp2_with fail
  ((with_reducible refine (HW.out _ (HG.out.later hB1)).mono ?_); rintro e w2 ⟨rfl, hb2⟩)
  have hB2 := hB1.trans (hb2.mono hB1.size); clear hb2
  go_wp2_with fail
  ((with_reducible refine (HM.out _ (HG.out.later hB2)).mono ?_); rintro e w3 ⟨rfl, hb3⟩)
  have hB3 := hB2.trans (hb3.mono hB2.size); clear hb3
  go_wp2
  go_ret
  exact ⟨rfl, hB3⟩
end Go.Proofs.Wk
/- STRAIGHTNESS: vectors in the reference. -/
namespace Go.Proofs.Wk
open Go.RowKit Mt

theorem new2 (w : World) (o1 o2 : Obj) : ((w.alloc o1).alloc o2).heap[w.heap.size + 1]? = some o2 := by
  have := heap_alloc_new (w.alloc o1) o2
  rwa [World.size_alloc] at this
theorem new3 (w : World) (o1 o2 o3 : Obj) : (((w.alloc o1).alloc o2).alloc o3).heap[w.heap.size + 1 + 1]? = some o3 := by
  have := heap_alloc_new ((w.alloc o1).alloc o2) o3
  rwa [World.size_alloc, World.size_alloc] at this
set_option maxRecDepth 100000 in
set_option maxHeartbeats 1000000 in
theorem rMinus_c (a b : St.Pt) (w : World) (ha : St.InP a) (hb : St.InP b) : Calls Tryz.prog 9 #[ptV a, ptV b] w (Ret w (ptV (St.sub a b))) := by
  obtain ⟨ax, ay⟩ := a
  obtain ⟨bx, by_⟩ := b
  obtain ⟨a1, a2, a3, a4⟩ := ha
  obtain ⟨b1, b2, b3, b4⟩ := hb
  unfold St.sub
  simp only at a1 a2 a3 a4 b1 b2 b3 b4 ⊢
  obtain ⟨u1, q1⟩ : ∃ u, ax - bx = u := ⟨_, rfl⟩
  obtain ⟨u3, q3⟩ : ∃ u, ay - by_ = u := ⟨_, rfl⟩
  have j1 : IntKind.i64.wrap (ax - bx) = u1 := wr q1 (by omega)
  have j3 : IntKind.i64.wrap (ay - by_) = u3 := wr q3 (by omega)
  rw [q1, q3]
  clear q1 q3 a1 a2 a3 a4 b1 b2 b3 b4
  go_enter Tryz.func9, Tryz.ntmps9
  go_wp2
  refine bodyPost_ret (results_cell_row rfl _ _ (w.heap.size + 1 + 1) 24 #[.int .i64 u1, .int .i64 u3] (0, 0) _ (by kernel_rfl) (new3 w _ _ _) Tryz.underlying24 rfl (by kernel_rfl)) rfl ?_
  exact ⟨rfl, bx3 w _ _ _⟩
theorem sub_bd {a b : St.Pt} (ha : St.InP a) (hb : St.InP b) : (-((200000 : Nat) : Int) ≤ (St.sub a b).x ∧ (St.sub a b).x ≤ ((200000 : Nat) : Int)) ∧ -((200000 : Nat) : Int) ≤ (St.sub a b).y ∧ (St.sub a b).y ≤ ((200000 : Nat) : Int) := by
  obtain ⟨a1, a2, a3, a4⟩ := ha
  obtain ⟨b1, b2, b3, b4⟩ := hb
  unfold St.sub
  simp only
  omega
/-- Three boxes, as facts. -/
structure Bx3 (w W : World) (p0 p1 p2 : St.Pt) : Prop where
  a : PtAt W w.heap.size 0 p0
  b : PtAt W (w.heap.size + 1) 0 p1
  c : PtAt W (w.heap.size + 1 + 1) 0 p2
  w : Below w.heap.size w W
theorem Bx3.mk' (w : World) (p0 p1 p2 : St.Pt) (t : TypeId) : Bx3 w (((w.alloc (.cells #[.int .i64 p0.x, .int .i64 p0.y] t)).alloc (.cells #[.int .i64 p1.x, .int .i64 p1.y] t)).alloc (.cells #[.int .i64 p2.x, .int .i64 p2.y] t)) p0 p1 p2 := by
  have h0 := PtAt.new w p0 t
  have h1 := PtAt.new (w.alloc (.cells #[.int .i64 p0.x, .int .i64 p0.y] t)) p1 t
  have h2 := PtAt.new ((w.alloc (.cells #[.int .i64 p0.x, .int .i64 p0.y] t)).alloc (.cells #[.int .i64 p1.x, .int .i64 p1.y] t)) p2 t
  have b1 := below_al (w.alloc (.cells #[.int .i64 p0.x, .int .i64 p0.y] t)) (.cells #[.int .i64 p1.x, .int .i64 p1.y] t)
  have b2 := below_al ((w.alloc (.cells #[.int .i64 p0.x, .int .i64 p0.y] t)).alloc (.cells #[.int .i64 p1.x, .int .i64 p1.y] t)) (.cells #[.int .i64 p2.x, .int .i64 p2.y] t)
  have h0' := (h0.later b1).later b2
  have h1' := h1.later b2
  simp only [World.size_alloc] at h1' h2
  exact ⟨h0', h1', h2, bx3 w _ _ _⟩
theorem Bx3.later {w W W' : World} {p0 p1 p2 : St.Pt} (h : Bx3 w W p0 p1 p2) (hb : Below W.heap.size W W') : Bx3 w W' p0 p1 p2 := ⟨h.a.later hb, h.b.later hb, h.c.later hb, h.w.nx hb⟩
theorem Bx3.drew {w W : World} {p0 p1 p2 : St.Pt} (h : Bx3 w W p0 p1 p2) : Bx3 w W.drew p0 p1 p2 := ⟨h.a.drew, h.b.drew, h.c.drew, h.w.drew⟩
theorem Bx3.s {w W : World} {ax ay bx by_ px py : Int} (h : Bx3 w W ⟨ax, ay⟩ ⟨bx, by_⟩ ⟨px, py⟩) : W.cell? ⟨w.heap.size, 0, none⟩ = some (.int .i64 ax) ∧ W.cell? ⟨w.heap.size, 1, none⟩ = some (.int .i64 ay) ∧
    W.cell? ⟨w.heap.size + 1, 0, none⟩ = some (.int .i64 bx) ∧ W.cell? ⟨w.heap.size + 1, 1, none⟩ = some (.int .i64 by_) ∧
    W.cell? ⟨w.heap.size + 1 + 1, 0, none⟩ = some (.int .i64 px) ∧ W.cell? ⟨w.heap.size + 1 + 1, 1, none⟩ = some (.int .i64 py) ∧ Bx3 w W ⟨ax, ay⟩ ⟨bx, by_⟩ ⟨px, py⟩ :=
  ⟨h.a.c0, h.a.c1, h.b.c0, h.b.c1, h.c.c0, h.c.c1, h⟩
structure Bx2 (w W : World) (p0 p1 : St.Pt) : Prop where
  a : PtAt W w.heap.size 0 p0
  b : PtAt W (w.heap.size + 1) 0 p1
  w : Below w.heap.size w W
theorem Bx2.mk' (w : World) (p0 p1 : St.Pt) (t : TypeId) : Bx2 w ((w.alloc (.cells #[.int .i64 p0.x, .int .i64 p0.y] t)).alloc (.cells #[.int .i64 p1.x, .int .i64 p1.y] t)) p0 p1 := by
  have h0 := PtAt.new w p0 t
  have h1 := PtAt.new (w.alloc (.cells #[.int .i64 p0.x, .int .i64 p0.y] t)) p1 t
  have b1 := below_al (w.alloc (.cells #[.int .i64 p0.x, .int .i64 p0.y] t)) (.cells #[.int .i64 p1.x, .int .i64 p1.y] t)
  have h0' := h0.later b1
  simp only [World.size_alloc] at h1
  exact ⟨h0', h1, bx2 w _ _⟩
theorem Bx2.later {w W W' : World} {p0 p1 : St.Pt} (h : Bx2 w W p0 p1) (hb : Below W.heap.size W W') : Bx2 w W' p0 p1 := ⟨h.a.later hb, h.b.later hb, h.w.nx hb⟩
theorem Bx2.drew {w W : World} {p0 p1 : St.Pt} (h : Bx2 w W p0 p1) : Bx2 w W.drew p0 p1 := ⟨h.a.drew, h.b.drew, h.w.drew⟩
end Go.Proofs.Wk
/- STRAIGHTNESS: distances from a line in the reference; vectors of package hull. -/
namespace Go.Proofs.Wk
open Go.RowKit Mt

theorem Bx2.s {w W : World} {ax ay bx by_ : Int} (h : Bx2 w W ⟨ax, ay⟩ ⟨bx, by_⟩) : W.cell? ⟨w.heap.size, 0, none⟩ = some (.int .i64 ax) ∧ W.cell? ⟨w.heap.size, 1, none⟩ = some (.int .i64 ay) ∧
    W.cell? ⟨w.heap.size + 1, 0, none⟩ = some (.int .i64 bx) ∧ W.cell? ⟨w.heap.size + 1, 1, none⟩ = some (.int .i64 by_) ∧ Bx2 w W ⟨ax, ay⟩ ⟨bx, by_⟩ :=
  ⟨h.a.c0, h.a.c1, h.b.c0, h.b.c1, h⟩
end Go.Proofs.Wk
/- STRAIGHTNESS: the support of a pair. -/
namespace Go.Proofs.Wk
open Go.RowKit Mt

abbrev prfC (x : St.Prf) : Array Value := #[.int .i64 (x.i : Int), .int .i64 (x.j : Int), .int .i64 x.area, .int .i64 (x.far : Int)]
abbrev prfV (x : St.Prf) : Value := .agg (prfC x)
theorem supF_same (a : St.Pt) : ∀ (l : List St.Pt) (k : Nat) (s : St.Sp), 0 ≤ s.area → (St.supF a a l k s).area = s.area ∧ (St.supF a a l k s).far = s.far
  | [], _, _, _ => ⟨rfl, rfl⟩
  | p :: t, k, s, h => by
    have e : St.left a a p = 0 := by unfold St.left; simp
    have e1 : (St.supS a a p k s).area = s.area := by unfold St.supS; rw [e]; exact if_neg (by simp; omega)
    have e2 : (St.supS a a p k s).far = s.far := by unfold St.supS; rw [e]; exact if_neg (by simp; omega)
    have ih := supF_same a t (k + 1) (St.supS a a p k s) (by rw [e1]; exact h)
    rw [e1, e2] at ih
    exact ih
theorem prf_same {ls : List St.Pt} {i j : Nat} (h : St.at_ ls i = St.at_ ls j) : St.prf ls i j = ⟨i, j, 0, 0⟩ := by
  obtain ⟨h1, h2⟩ := supF_same (St.at_ ls j) ls 0 ⟨0, 0, 0, 0⟩ (Int.le_refl _)
  unfold St.prf St.sp
  rw [h, h1, h2]
theorem sup_drop {ls : List St.Pt} {k : Nat} (hk : k < ls.length) (a b : St.Pt) (s : St.Sp) : St.supF a b (ls.drop k) k s = St.supF a b (ls.drop (k + 1)) (k + 1) (St.supS a b (St.at_ ls k) k s) := by
  rw [List.drop_eq_getElem_cons hk, St.supF, St.at_get hk]
/-- What lies in memory while a pair is looked at. -/
structure SpI (w W : World) (i j : Nat) (area : Int) (far : Nat) : Prop where
  r : W.heap[w.heap.size]? = some (.cells #[.int .i64 0, .int .i64 0, .int .i64 0, .int .i64 0] 44 (0, 0))
  o : W.heap[w.heap.size + 1]? = some (.cells #[.int .i64 (i : Int), .int .i64 (j : Int), .int .i64 area, .int .i64 (far : Int)] 44 (0, 0))
  w : Below w.heap.size w W
theorem SpI.later {w W W' : World} {i j : Nat} {area : Int} {far : Nat} (h : SpI w W i j area far) (hb : Below W.heap.size W W') : SpI w W' i j area far :=
  ⟨by rw [hb.block _ (Array.getElem?_eq_some_iff.1 h.r).1]; exact h.r, by rw [hb.block _ (Array.getElem?_eq_some_iff.1 h.o).1]; exact h.o, h.w.nx hb⟩
theorem pt_fields : ((Tryz.prog.fieldsOf 24).toList.map fun f => (f.name, f.type, f.offset)) = [("X", 3, 0), ("Y", 3, 1)] := by kernel_rfl
theorem pt_equal (a b c d : Int) (w : World) : (Op.equalIn 10000 24 (.agg #[.int .i64 a, .int .i64 b]) (.agg #[.int .i64 c, .int .i64 d])).run Tryz.prog w = .ok (a == c && b == d) w := by
  have hf := pt_fields
  rw [show (10000 : Nat) = 9999 + 1 from rfl, run_equalIn_agg w 9999 24 _ _ (by kernel_rfl) (by kernel_rfl)]
  generalize (Tryz.prog.fieldsOf 24).toList = fs at *
  rcases fs with _ | ⟨f, _ | ⟨g, _ | ⟨_, _⟩⟩⟩
  · simp at hf
  · simp at hf
  · simp only [List.map_cons, List.map_nil, List.cons.injEq, Prod.mk.injEq, and_true] at hf
    obtain ⟨⟨f1, f2, f3⟩, g1, g2, g3⟩ := hf
    have p1 : ∀ (u v : Int) (W : World), (part 3 #[.int .i64 u, .int .i64 v] 0).run Tryz.prog W = .ok (.int .i64 u) W := fun u v W => by simp [part, isAgg, run_underlying Tryz.underlying3]
    have p2 : ∀ (u v : Int) (W : World), (part 3 #[.int .i64 u, .int .i64 v] 1).run Tryz.prog W = .ok (.int .i64 v) W := fun u v W => by simp [part, isAgg, run_underlying Tryz.underlying3]
    have e1 := fun (u v : Int) (W : World) => run_equalIn_int (P := Tryz.prog) W 9998 3 .i64 .i64 u v Tryz.underlying3
    simp only [Op.eqFields, f1, f2, f3, g1, g2, g3, show (("X" : String) ≠ "_") = True from by simp, show (("Y" : String) ≠ "_") = True from by simp, if_true, Sem.run_bind, p1, p2, Result.andThen_ok, e1, Sem.run_ite]
    cases h1 : (a == c) <;> cases h2 : (b == d) <;> simp
  · simp at hf
theorem pt_eql (a b c d : Int) (w : World) : (binOp .eql 24 (.agg #[.int .i64 a, .int .i64 b]) (.agg #[.int .i64 c, .int .i64 d])).run Tryz.prog w = .ok (.bool (a == c && b == d)) w := by
  rw [run_eql_struct, pt_equal]; rfl
theorem pt_neq (a b c d : Int) (w : World) : (binOp .neq 24 (.agg #[.int .i64 a, .int .i64 b]) (.agg #[.int .i64 c, .int .i64 d])).run Tryz.prog w = .ok (.bool (!(a == c && b == d))) w := by
  rw [run_neq_struct, pt_equal]; rfl
theorem pt_beq (p q : St.Pt) : (p.x == q.x && p.y == q.y) = decide (p = q) := by
  obtain ⟨a, b⟩ := p
  obtain ⟨c, d⟩ := q
  rw [Bool.eq_iff_iff]
  simp
theorem Bx2z_new (w : World) (i j : Nat) : SpI w ((w.alloc (.cells #[.int .i64 0, .int .i64 0, .int .i64 0, .int .i64 0] 44)).alloc (.cells #[.int .i64 (i : Int), .int .i64 (j : Int), .int .i64 0, .int .i64 0] 44)) i j 0 0 :=
  ⟨by rw [heap_alloc_old _ _ (by rw [World.size_alloc]; omega)]; exact heap_alloc_new w _, new2 w _ _, bx2 w _ _⟩
theorem SpI.dN {w W : World} {i j : Nat} {area : Int} {far : Nat} (h : SpI w W i j area far) (n : Nat) : SpI w (W.drewN n) i j area far := ⟨h.r, h.o, ⟨h.w.os, h.w.tape, h.w.output, h.w.size, h.w.block⟩⟩
theorem SpI.drew {w W : World} {i j : Nat} {area : Int} {far : Nat} (h : SpI w W i j area far) : SpI w W.drew i j area far := ⟨h.r, h.o, h.w.drew⟩
theorem SpI.put {w W : World} {i j : Nat} {area : Int} {far : Nat} (h : SpI w W i j area far) (n : Int) (k : Nat) : SpI w ((W.setCell ⟨w.heap.size + 1, 2, none⟩ (.int .i64 n)).setCell ⟨w.heap.size + 1, 3, none⟩ (.int .i64 (k : Int))) i j n k := by
  refine ⟨(heap_setCell_other _ _ _ _ (show w.heap.size ≠ w.heap.size + 1 by omega)).trans ((heap_setCell_other _ _ _ _ (show w.heap.size ≠ w.heap.size + 1 by omega)).trans h.r), ?_, (h.w.cel (show w.heap.size ≤ w.heap.size + 1 by omega) _).cel (show w.heap.size ≤ w.heap.size + 1 by omega) _⟩
  have h0 : (W.setCell ⟨w.heap.size + 1, 2, none⟩ (.int .i64 n)).heap[w.heap.size + 1]? = some (.cells #[.int .i64 (i : Int), .int .i64 (j : Int), .int .i64 n, .int .i64 (far : Int)] 44 (0, 0)) := heap_setCell_same W _ 2 _ _ (.int .i64 n) h.o
  exact heap_setCell_same _ _ 3 _ _ (.int .i64 (k : Int)) h0
/-- What a round reads. -/
structure SpR (w W : World) (b o1 o2 g : Nat) (a c p : St.Pt) (i j : Nat) (area : Int) (far : Nat) : Prop where
  a : PtAt W b o1 a
  c : PtAt W b o2 c
  p : PtAt W g 0 p
  s : SpI w W i j area far
theorem SpR.later {w W W' : World} {b o1 o2 g : Nat} {a c p : St.Pt} {i j : Nat} {area : Int} {far : Nat} (h : SpR w W b o1 o2 g a c p i j area far) (hb : Below W.heap.size W W') : SpR w W' b o1 o2 g a c p i j area far :=
  ⟨h.a.later hb, h.c.later hb, h.p.later hb, h.s.later hb⟩
theorem SpR.drew {w W : World} {b o1 o2 g : Nat} {a c p : St.Pt} {i j : Nat} {area : Int} {far : Nat} (h : SpR w W b o1 o2 g a c p i j area far) : SpR w W.drew b o1 o2 g a c p i j area far := ⟨h.a.drew, h.c.drew, h.p.drew, h.s.drew⟩
theorem SpR.t {w W : World} {b o1 o2 g : Nat} {ax ay cx cy px py : Int} {i j : Nat} {area : Int} {far : Nat} (h : SpR w W b o1 o2 g ⟨ax, ay⟩ ⟨cx, cy⟩ ⟨px, py⟩ i j area far) :
    W.cell? ⟨b, o1, none⟩ = some (.int .i64 ax) ∧ W.cell? ⟨b, o1 + 1, none⟩ = some (.int .i64 ay) ∧ W.cell? ⟨b, o2, none⟩ = some (.int .i64 cx) ∧ W.cell? ⟨b, o2 + 1, none⟩ = some (.int .i64 cy) ∧
    W.cell? ⟨g, 0, none⟩ = some (.int .i64 px) ∧ W.cell? ⟨g, 1, none⟩ = some (.int .i64 py) ∧ SpR w W b o1 o2 g ⟨ax, ay⟩ ⟨cx, cy⟩ ⟨px, py⟩ i j area far :=
  ⟨h.a.c0, h.a.c1, h.c.c0, h.c.c1, h.p.c0, h.p.c1, h⟩
theorem supS_yes {a b p : St.Pt} {k : Nat} {s : St.Sp} (h : s.area < max (St.left a b p) (-(St.left a b p))) : St.supS a b p k s = ⟨min s.low (St.left a b p), max s.high (St.left a b p), max (St.left a b p) (-(St.left a b p)), k⟩ := by
  unfold St.supS; rw [if_pos h, if_pos h]
theorem supS_no {a b p : St.Pt} {k : Nat} {s : St.Sp} (h : ¬ s.area < max (St.left a b p) (-(St.left a b p))) : St.supS a b p k s = ⟨min s.low (St.left a b p), max s.high (St.left a b p), s.area, s.far⟩ := by
  unfold St.supS; rw [if_neg h, if_neg h]
theorem RX.ptAt {w : World} {b off : Nat} {ls : List St.Pt} (h : RX w b off ls) {i : Nat} (hi : i < ls.length) : PtAt w b (off + i * 2) (St.at_ ls i) := ⟨(h.pt hi).1, (h.pt hi).2⟩
set_option maxRecDepth 100000 in
set_option maxHeartbeats 4000000 in
theorem supporting_c {v : Value} (ls : List St.Pt) (i j : Nat) (w : World) (S : SlX w v ls) (hin : ∀ p ∈ ls, St.InP p) (hi : i < ls.length) (hj : j < ls.length) (hn : ls.length ≤ 64) :
    Calls Tryz.prog 54 #[v, .int .i64 (i : Int), .int .i64 (j : Int)] w (Ret w (.tuple #[prfV (St.prf ls i j), .bool (St.okP ls i j)])) := by
  refine S.cases _ ?_ ?_
  · rintro a cap rfl rfl
    simp at hi
  rintro b off cap rfl hp hR hb
  obtain ⟨k0, k1⟩ := hR.pt hi
  obtain ⟨l0, l1⟩ := hR.pt hj
  have hE : St.supF (St.at_ ls i) (St.at_ ls j) (ls.drop 0) 0 ⟨0, 0, 0, 0⟩ = St.sp ls i j := rfl
  have hP : St.prf ls i j = ⟨i, j, (St.sp ls i j).area, (St.sp ls i j).far⟩ := rfl
  have hO : St.okP ls i j = (decide (St.at_ ls i ≠ St.at_ ls j) && (decide ((St.sp ls i j).low = 0) || decide ((St.sp ls i j).high = 0))) := rfl
  have hsame : St.at_ ls i = St.at_ ls j → St.prf ls i j = ⟨i, j, 0, 0⟩ := prf_same
  have hpa := St.at_in hin hi
  have hpc := St.at_in hin hj
  have hAA := fun (W : World) (h : Below w.heap.size w W) => (hR.later h hb).ptAt hi
  have hCC := fun (W : World) (h : Below w.heap.size w W) => (hR.later h hb).ptAt hj
  generalize St.sp ls i j = E at *
  generalize St.prf ls i j = P0 at *
  generalize St.okP ls i j = B0 at *
  generalize St.at_ ls i = a at *
  generalize St.at_ ls j = c at *
  have hbx := Bx2z_new w i j
  by_cases hac : a = c
  · obtain rfl := hsame hac
    subst hac
    obtain rfl : B0 = false := by rw [hO]; simp
    obtain ⟨ax, ay⟩ := a
    simp only at k0 k1 l0 l1
    have pe := fun W => pt_eql ax ay ax ay W
    rw [show (ax == ax && ay == ay) = true by simp] at pe
    clear hE hP hO hsame hpa hpc hR hAA hCC
    go_enter Tryz.func54, Tryz.ntmps54
    go_wp2_with fail
    go_quiet (fail)
    have hx := hbx.dN nq
    generalize (((w.alloc (.cells #[.int .i64 0, .int .i64 0, .int .i64 0, .int .i64 0] 44)).alloc (.cells #[.int .i64 (i : Int), .int .i64 (j : Int), .int .i64 0, .int .i64 0] 44)).drewN nq) = W at *
    obtain ⟨d0, d1, d2, d3⟩ := c4row hx.o
    obtain ⟨e0, e1, e2, e3⟩ := c4row hx.r
    have hf := fun k => free_row hx.r k
    have HX := Lib.hid hx
    clear hx hbx k0 k1 l0 l1
    go_wp2
    refine bodyPost_ret (res_ct rfl (by kernel_rfl) (s4row HX.out.r) Tryz.underlying44 rfl (by kernel_rfl) rfl) rfl ?_
    exact ⟨rfl, b4row HX.out.w (Nat.le_refl _)⟩
  · have hbad : (a.x == c.x && a.y == c.y) = false := by rw [pt_beq]; exact decide_eq_false hac
    have HL := Lib.hid (fun (p : St.Pt) (hp : St.InP p) (W : World) => left_g a c p W hpa hpc hp)
    have HBD := Lib.hid (fun (p : St.Pt) (hp : St.InP p) => (St.left_bd hpa hpc hp).2.2)
    have HR := Lib.hid hR
    have HIN := Lib.hid (fun (k : Nat) (hk : k < ls.length) => St.at_in hin hk)
    have HP := Lib.hid hP
    have HO := Lib.hid (show B0 = (decide (E.low = 0) || decide (E.high = 0)) by rw [hO]; simp [hac])
    have HE := Lib.hid hE
    have HAA := Lib.hid hAA
    have HCC := Lib.hid hCC
    clear hP hO hsame hpa hpc hR hE hin hAA hCC
    obtain ⟨ax, ay⟩ := a
    obtain ⟨cx, cy⟩ := c
    simp only at k0 k1 l0 l1 hbad
    have pe := fun W => pt_eql ax ay cx cy W
    rw [hbad] at pe
    clear hac hbad
    go_enter Tryz.func54, Tryz.ntmps54
    go_wp2_with fail
    go_quiet (fail)
    have hx := hbx.dN nq
    generalize (((w.alloc (.cells #[.int .i64 0, .int .i64 0, .int .i64 0, .int .i64 0] 44)).alloc (.cells #[.int .i64 (i : Int), .int .i64 (j : Int), .int .i64 0, .int .i64 0] 44)).drewN nq) = W at *
    have HX := Lib.hid hx
    clear hx hbx k0 k1 l0 l1 pe
    go_wp2_with fail
    go_loopw [9, 10, 30] (fun sl sh sk wr => ∃ (k : Nat) (s : St.Sp), sl = .int .i64 s.low ∧ sh = .int .i64 s.high ∧ sk = .int .i64 (k : Int) ∧ k ≤ ls.length ∧ Hid (St.supF ⟨ax, ay⟩ ⟨cx, cy⟩ (ls.drop k) k s = E) ∧ Hid (SpI w wr i j s.area s.far))
      (fun _ _ sk _ => ls.length - (intOf sk).toNat)
    case atStart => exact ⟨0, ⟨0, 0, 0, 0⟩, rfl, rfl, rfl, Nat.zero_le _, HE.out, HX.out⟩
    case round =>
      obtain ⟨k, s, rfl, rfl, rfl, hk, hs, hI⟩ := hrel
      obtain ⟨low, high, area, far⟩ := s
      simp only at hI ⊢
      by_cases hlt : k < ls.length
      · have hpp := (HR.out.later hI.out.w hb).ptAt hlt
        have hst := hs.out
        rw [sup_drop hlt] at hst
        have hip := HIN.out k hlt
        have hw0 := hI.out.w.nx (below_al wr (.cells #[.int .i64 (St.at_ ls k).x, .int .i64 (St.at_ ls k).y] 24))
        have hr0 : SpR w (wr.alloc (.cells #[.int .i64 (St.at_ ls k).x, .int .i64 (St.at_ ls k).y] 24)) b (off + i * 2) (off + j * 2) wr.heap.size ⟨ax, ay⟩ ⟨cx, cy⟩ (St.at_ ls k) i j area far :=
          ⟨HAA.out _ hw0, HCC.out _ hw0, PtAt.new wr _ _, hI.out.later (below_al wr _)⟩
        obtain ⟨m0, m1⟩ := id hpp
        generalize St.at_ ls k = p at *
        have hl := fun W => HL.out p hip W
        have hn' := HBD.out p hip
        have hy := @supS_yes ⟨ax, ay⟩ ⟨cx, cy⟩ p k ⟨low, high, area, far⟩
        have hz := @supS_no ⟨ax, ay⟩ ⟨cx, cy⟩ p k ⟨low, high, area, far⟩
        generalize St.left ⟨ax, ay⟩ ⟨cx, cy⟩ p = n at *
        obtain ⟨px, py⟩ := p
        simp only at m0 m1 hr0 hy hz
        have HN := Lib.hid hl
        have hng : IntKind.i64.wrap (-n) = -n := IntWalk.i64_in _ (by omega)
        have HST := Lib.hid hst
        have HR0 := Lib.hid hr0
        have HY := Lib.hid hy
        have HZ := Lib.hid hz
        clear hl hy hz hr0 hst hs hpp hw0 hip hn'
        go_wp2_with fail
        generalize wr.alloc (.cells #[.int .i64 px, .int .i64 py] 24) = W1 at *
        clear m0 m1
        go_region_held3 (fun w' => w'.cell? ⟨b, off + i * 2, none⟩ = some (.int .i64 ax) ∧ w'.cell? ⟨b, off + i * 2 + 1, none⟩ = some (.int .i64 ay) ∧ w'.cell? ⟨b, off + j * 2, none⟩ = some (.int .i64 cx) ∧ w'.cell? ⟨b, off + j * 2 + 1, none⟩ = some (.int .i64 cy) ∧
            w'.cell? ⟨wr.heap.size, 0, none⟩ = some (.int .i64 px) ∧ w'.cell? ⟨wr.heap.size, 1, none⟩ = some (.int .i64 py) ∧ SpR w w' b (off + i * 2) (off + j * 2) wr.heap.size ⟨ax, ay⟩ ⟨cx, cy⟩ ⟨px, py⟩ i j area far)
          (first | exact JJ.t | exact HR0.out.t | exact HR0.out.drew.t)
          (first
            | (go_at_call 91; (with_reducible refine (HN.out _).mono ?_); rintro e w1 ⟨rfl, hb1⟩; (first | have JJ := HR0.out.drew.later hb1 | have JJ := HR0.out.later hb1))
            | fail)
        all_goals
          obtain ⟨d0, d1, d2, d3⟩ := c4row JJ.s.o
          have hf := fun k => free_row JJ.s.o k
          have HJ := Lib.hid JJ
          clear JJ
          rcases Int.lt_or_le area (max n (-n)) with hg | hg
          · have HE2 := Lib.hid (show St.supF ⟨ax, ay⟩ ⟨cx, cy⟩ (List.drop (k + 1) ls) (k + 1) ⟨min low n, max high n, max n (-n), k⟩ = E by rw [← HY.out hg]; exact HST.out)
            clear HY HZ HST
            go_wp2
            go_roundw
            case rel => exact ⟨k + 1, ⟨min low n, max high n, max n (-n), k⟩, rfl, rfl, by go_num, by omega, HE2.out, HJ.out.s.put _ _⟩
            case measure => simp [intOf]; omega
          · have HE2 := Lib.hid (show St.supF ⟨ax, ay⟩ ⟨cx, cy⟩ (List.drop (k + 1) ls) (k + 1) ⟨min low n, max high n, area, far⟩ = E by rw [← HZ.out hg]; exact HST.out)
            clear HY HZ HST
            go_wp2
            go_roundw
            case rel => exact ⟨k + 1, ⟨min low n, max high n, area, far⟩, rfl, rfl, by go_num, by omega, HE2.out, HJ.out.s⟩
            case measure => simp [intOf]; omega
      · obtain rfl : k = ls.length := by omega
        have hs := hs.out
        rw [List.drop_length] at hs
        have hP := HP.out
        have hO := HO.out
        obtain rfl : (⟨low, high, area, far⟩ : St.Sp) = E := hs
        simp only at hP hO
        subst hP
        have HX2 := Lib.hid hI.out
        obtain ⟨d0, d1, d2, d3⟩ := c4row hI.out.o
        obtain ⟨e0, e1, e2, e3⟩ := c4row hI.out.r
        have hf := fun k => free_row hI.out.r k
        clear hI HX HE HO HP HL HBD
        by_cases hlow : low = 0
        · obtain rfl : B0 = true := by rw [hO]; simp [hlow]
          have z : (low == 0) = true := beq_iff_eq.2 hlow
          clear hO hlow
          go_wp2
          refine bodyPost_ret (res_ct rfl (by kernel_rfl) (s4row HX2.out.r) Tryz.underlying44 rfl (by kernel_rfl) rfl) rfl ?_
          exact ⟨rfl, b4row HX2.out.w (Nat.le_refl _)⟩
        · have z : (low == 0) = false := beq_eq_false_iff_ne.2 hlow
          obtain rfl : B0 = decide (high = 0) := by rw [hO, decide_eq_false hlow, Bool.false_or]
          have z2 : (high == 0) = decide (high = 0) := by rw [Bool.eq_iff_iff]; simp
          clear hO hlow
          go_wp2
          refine bodyPost_ret (res_ct rfl (by kernel_rfl) (s4row HX2.out.r) Tryz.underlying44 rfl (by kernel_rfl) rfl) rfl ?_
          exact ⟨rfl, b4row HX2.out.w (Nat.le_refl _)⟩
end Go.Proofs.Wk
