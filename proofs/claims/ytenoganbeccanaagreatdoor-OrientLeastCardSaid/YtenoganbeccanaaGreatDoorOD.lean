/- SQUARENESS: vectors in space. -/
import Derived.Test.YtenoganbeccanaaGreatDoorOC
import Derived.Test.YtenoganbeccanaaGreatDoorGL
import Derived.Test.YtenoganbeccanaaGreatDoorHI
import Derived.Test.YtenoganbeccanaaGreatDoorHE
namespace Go.Proofs.Wk
open Go.RowKit Mt

/-- Coordinates that are not greater than a bound. -/
def Bd (k : Nat) (p : Or.P3) : Prop := (-(k : Int) ≤ p.x ∧ p.x ≤ k) ∧ (-(k : Int) ≤ p.y ∧ p.y ≤ k) ∧ (-(k : Int) ≤ p.z ∧ p.z ≤ k)
theorem Bd.of {p : Or.P3} (h : InS p) : Bd 100000 p := h
theorem Bd.mono {k m : Nat} {p : Or.P3} (h : Bd k p) (hk : k ≤ m) : Bd m p := by unfold Bd at h ⊢; omega
theorem Bd.sub {k m n : Nat} {a b : Or.P3} (ha : Bd k a) (hb : Bd m b) (hn : k + m ≤ n) : Bd n (Or.sub a b) := by
  unfold Bd at ha hb
  unfold Bd Or.sub
  simp only
  omega
theorem Bd.crs {k m n : Nat} {a b : Or.P3} (ha : Bd k a) (hb : Bd m b) (hn : 2 * (k * m) ≤ n) : Bd n (Or.crs a b) := by
  obtain ⟨a1, a2, a3⟩ := ha
  obtain ⟨b1, b2, b3⟩ := hb
  have h1 := St.mul_bd a2 b3
  have h2 := St.mul_bd a3 b2
  have h3 := St.mul_bd a3 b1
  have h4 := St.mul_bd a1 b3
  have h5 := St.mul_bd a1 b2
  have h6 := St.mul_bd a2 b1
  unfold Bd Or.crs
  simp only
  omega
theorem Bd.dot {k m : Nat} {a b : Or.P3} (ha : Bd k a) (hb : Bd m b) : -((3 * (k * m) : Nat) : Int) ≤ Or.dot a b ∧ Or.dot a b ≤ ((3 * (k * m) : Nat) : Int) := by
  obtain ⟨a1, a2, a3⟩ := ha
  obtain ⟨b1, b2, b3⟩ := hb
  have h1 := St.mul_bd a1 b1
  have h2 := St.mul_bd a2 b2
  have h3 := St.mul_bd a3 b3
  unfold Or.dot
  omega
set_option maxRecDepth 100000 in
set_option maxHeartbeats 2000000 in
theorem oless_c (a b : Or.P3) (k m : Nat) (w : World) (ha : Bd k a) (hb : Bd m b) (hk : k + m ≤ 1000000000) : Calls Tryz.prog 97 #[spV a, spV b] w (Ret w (spV (Or.sub a b))) := by
  have hB := bx2 w (.cells #[.int .i64 a.x, .int .i64 a.y, .int .i64 a.z] 52) (.cells #[.int .i64 b.x, .int .i64 b.y, .int .i64 b.z] 52)
  obtain ⟨ax, ay, az⟩ := a
  obtain ⟨bx, by_, bz⟩ := b
  obtain ⟨a1, a2, a3⟩ := ha
  obtain ⟨b1, b2, b3⟩ := hb
  simp only at a1 a2 a3 b1 b2 b3 hB
  unfold Or.sub
  simp only
  obtain ⟨u1, q1⟩ : ∃ u, ax - bx = u := ⟨_, rfl⟩
  have j1 : IntKind.i64.wrap (ax - bx) = u1 := wr q1 (by omega)
  obtain ⟨u2, q2⟩ : ∃ u, ay - by_ = u := ⟨_, rfl⟩
  have j2 : IntKind.i64.wrap (ay - by_) = u2 := wr q2 (by omega)
  obtain ⟨u3, q3⟩ : ∃ u, az - bz = u := ⟨_, rfl⟩
  have j3 : IntKind.i64.wrap (az - bz) = u3 := wr q3 (by omega)
  rw [q1, q2, q3]
  clear q1 q2 q3 a1 a2 a3 b1 b2 b3
  go_enter Tryz.func97, Tryz.ntmps97
  go_wp2
  refine bodyPost_ret (results_cell_row rfl _ _ (w.heap.size + 1 + 1) 52 #[.int .i64 u1, .int .i64 u2, .int .i64 u3] (0, 0) _ (by kernel_rfl) (new3 w _ _ _) Tryz.underlying52 rfl (by kernel_rfl)) rfl ?_
  exact ⟨rfl, bx3 w _ _ _⟩
set_option maxRecDepth 100000 in
set_option maxHeartbeats 2000000 in
theorem rLess_c (a b : Or.P3) (k m : Nat) (w : World) (ha : Bd k a) (hb : Bd m b) (hk : k + m ≤ 1000000000) : Calls Tryz.prog 58 #[spV a, spV b] w (Ret w (spV (Or.sub a b))) := by
  have hB := bx2 w (.cells #[.int .i64 a.x, .int .i64 a.y, .int .i64 a.z] 52) (.cells #[.int .i64 b.x, .int .i64 b.y, .int .i64 b.z] 52)
  obtain ⟨ax, ay, az⟩ := a
  obtain ⟨bx, by_, bz⟩ := b
  obtain ⟨a1, a2, a3⟩ := ha
  obtain ⟨b1, b2, b3⟩ := hb
  simp only at a1 a2 a3 b1 b2 b3 hB
  unfold Or.sub
  simp only
  obtain ⟨u1, q1⟩ : ∃ u, ax - bx = u := ⟨_, rfl⟩
  have j1 : IntKind.i64.wrap (ax - bx) = u1 := wr q1 (by omega)
  obtain ⟨u2, q2⟩ : ∃ u, ay - by_ = u := ⟨_, rfl⟩
  have j2 : IntKind.i64.wrap (ay - by_) = u2 := wr q2 (by omega)
  obtain ⟨u3, q3⟩ : ∃ u, az - bz = u := ⟨_, rfl⟩
  have j3 : IntKind.i64.wrap (az - bz) = u3 := wr q3 (by omega)
  rw [q1, q2, q3]
  clear q1 q2 q3 a1 a2 a3 b1 b2 b3
  go_enter Tryz.func58, Tryz.ntmps58
  go_wp2
  refine bodyPost_ret (results_cell_row rfl _ _ (w.heap.size + 1 + 1) 52 #[.int .i64 u1, .int .i64 u2, .int .i64 u3] (0, 0) _ (by kernel_rfl) (new3 w _ _ _) Tryz.underlying52 rfl (by kernel_rfl)) rfl ?_
  exact ⟨rfl, bx3 w _ _ _⟩
set_option maxRecDepth 100000 in
set_option maxHeartbeats 2000000 in
theorem ocross_c (a b : Or.P3) (k m : Nat) (w : World) (ha : Bd k a) (hb : Bd m b) (hk : k * m ≤ 1000000000000000000) : Calls Tryz.prog 96 #[spV a, spV b] w (Ret w (spV (Or.crs a b))) := by
  have hB := bx2 w (.cells #[.int .i64 a.x, .int .i64 a.y, .int .i64 a.z] 52) (.cells #[.int .i64 b.x, .int .i64 b.y, .int .i64 b.z] 52)
  obtain ⟨ax, ay, az⟩ := a
  obtain ⟨bx, by_, bz⟩ := b
  obtain ⟨a1, a2, a3⟩ := ha
  obtain ⟨b1, b2, b3⟩ := hb
  simp only at a1 a2 a3 b1 b2 b3 hB
  unfold Or.crs
  simp only
  have h1 := St.mul_bd a2 b3
  obtain ⟨m1, r1⟩ : ∃ u, ay * bz = u := ⟨_, rfl⟩
  have j1 : IntKind.i64.wrap (ay * bz) = m1 := wr r1 (by omega)
  rw [r1] at h1
  have h2 := St.mul_bd a3 b2
  obtain ⟨m2, r2⟩ : ∃ u, az * by_ = u := ⟨_, rfl⟩
  have j2 : IntKind.i64.wrap (az * by_) = m2 := wr r2 (by omega)
  rw [r2] at h2
  have h3 := St.mul_bd a3 b1
  obtain ⟨m3, r3⟩ : ∃ u, az * bx = u := ⟨_, rfl⟩
  have j3 : IntKind.i64.wrap (az * bx) = m3 := wr r3 (by omega)
  rw [r3] at h3
  have h4 := St.mul_bd a1 b3
  obtain ⟨m4, r4⟩ : ∃ u, ax * bz = u := ⟨_, rfl⟩
  have j4 : IntKind.i64.wrap (ax * bz) = m4 := wr r4 (by omega)
  rw [r4] at h4
  have h5 := St.mul_bd a1 b2
  obtain ⟨m5, r5⟩ : ∃ u, ax * by_ = u := ⟨_, rfl⟩
  have j5 : IntKind.i64.wrap (ax * by_) = m5 := wr r5 (by omega)
  rw [r5] at h5
  have h6 := St.mul_bd a2 b1
  obtain ⟨m6, r6⟩ : ∃ u, ay * bx = u := ⟨_, rfl⟩
  have j6 : IntKind.i64.wrap (ay * bx) = m6 := wr r6 (by omega)
  rw [r6] at h6
  rw [r1, r2, r3, r4, r5, r6]
  obtain ⟨s1, q1⟩ : ∃ u, m1 - m2 = u := ⟨_, rfl⟩
  have l1 : IntKind.i64.wrap (m1 - m2) = s1 := wr q1 (by omega)
  obtain ⟨s2, q2⟩ : ∃ u, m3 - m4 = u := ⟨_, rfl⟩
  have l2 : IntKind.i64.wrap (m3 - m4) = s2 := wr q2 (by omega)
  obtain ⟨s3, q3⟩ : ∃ u, m5 - m6 = u := ⟨_, rfl⟩
  have l3 : IntKind.i64.wrap (m5 - m6) = s3 := wr q3 (by omega)
  rw [q1, q2, q3]
  clear q1 q2 q3 r1 r2 r3 r4 r5 r6 h1 h2 h3 h4 h5 h6 a1 a2 a3 b1 b2 b3 hk
  go_enter Tryz.func96, Tryz.ntmps96
  go_wp2
  refine bodyPost_ret (results_cell_row rfl _ _ (w.heap.size + 1 + 1) 52 #[.int .i64 s1, .int .i64 s2, .int .i64 s3] (0, 0) _ (by kernel_rfl) (new3 w _ _ _) Tryz.underlying52 rfl (by kernel_rfl)) rfl ?_
  exact ⟨rfl, bx3 w _ _ _⟩
set_option maxRecDepth 100000 in
set_option maxHeartbeats 2000000 in
theorem rVector_c (a b : Or.P3) (k m : Nat) (w : World) (ha : Bd k a) (hb : Bd m b) (hk : k * m ≤ 1000000000000000000) : Calls Tryz.prog 59 #[spV a, spV b] w (Ret w (spV (Or.crs a b))) := by
  have hB := bx2 w (.cells #[.int .i64 a.x, .int .i64 a.y, .int .i64 a.z] 52) (.cells #[.int .i64 b.x, .int .i64 b.y, .int .i64 b.z] 52)
  obtain ⟨ax, ay, az⟩ := a
  obtain ⟨bx, by_, bz⟩ := b
  obtain ⟨a1, a2, a3⟩ := ha
  obtain ⟨b1, b2, b3⟩ := hb
  simp only at a1 a2 a3 b1 b2 b3 hB
  unfold Or.crs
  simp only
  have h1 := St.mul_bd a2 b3
  obtain ⟨m1, r1⟩ : ∃ u, ay * bz = u := ⟨_, rfl⟩
  have j1 : IntKind.i64.wrap (ay * bz) = m1 := wr r1 (by omega)
  rw [r1] at h1
  have h2 := St.mul_bd a3 b2
  obtain ⟨m2, r2⟩ : ∃ u, az * by_ = u := ⟨_, rfl⟩
  have j2 : IntKind.i64.wrap (az * by_) = m2 := wr r2 (by omega)
  rw [r2] at h2
  have h3 := St.mul_bd a3 b1
  obtain ⟨m3, r3⟩ : ∃ u, az * bx = u := ⟨_, rfl⟩
  have j3 : IntKind.i64.wrap (az * bx) = m3 := wr r3 (by omega)
  rw [r3] at h3
  have h4 := St.mul_bd a1 b3
  obtain ⟨m4, r4⟩ : ∃ u, ax * bz = u := ⟨_, rfl⟩
  have j4 : IntKind.i64.wrap (ax * bz) = m4 := wr r4 (by omega)
  rw [r4] at h4
  have h5 := St.mul_bd a1 b2
  obtain ⟨m5, r5⟩ : ∃ u, ax * by_ = u := ⟨_, rfl⟩
  have j5 : IntKind.i64.wrap (ax * by_) = m5 := wr r5 (by omega)
  rw [r5] at h5
  have h6 := St.mul_bd a2 b1
  obtain ⟨m6, r6⟩ : ∃ u, ay * bx = u := ⟨_, rfl⟩
  have j6 : IntKind.i64.wrap (ay * bx) = m6 := wr r6 (by omega)
  rw [r6] at h6
  rw [r1, r2, r3, r4, r5, r6]
  obtain ⟨s1, q1⟩ : ∃ u, m1 - m2 = u := ⟨_, rfl⟩
  have l1 : IntKind.i64.wrap (m1 - m2) = s1 := wr q1 (by omega)
  obtain ⟨s2, q2⟩ : ∃ u, m3 - m4 = u := ⟨_, rfl⟩
  have l2 : IntKind.i64.wrap (m3 - m4) = s2 := wr q2 (by omega)
  obtain ⟨s3, q3⟩ : ∃ u, m5 - m6 = u := ⟨_, rfl⟩
  have l3 : IntKind.i64.wrap (m5 - m6) = s3 := wr q3 (by omega)
  rw [q1, q2, q3]
  clear q1 q2 q3 r1 r2 r3 r4 r5 r6 h1 h2 h3 h4 h5 h6 a1 a2 a3 b1 b2 b3 hk
  go_enter Tryz.func59, Tryz.ntmps59
  go_wp2
  refine bodyPost_ret (results_cell_row rfl _ _ (w.heap.size + 1 + 1) 52 #[.int .i64 s1, .int .i64 s2, .int .i64 s3] (0, 0) _ (by kernel_rfl) (new3 w _ _ _) Tryz.underlying52 rfl (by kernel_rfl)) rfl ?_
  exact ⟨rfl, bx3 w _ _ _⟩
set_option maxRecDepth 100000 in
set_option maxHeartbeats 2000000 in
theorem odot_c (a b : Or.P3) (k m : Nat) (w : World) (ha : Bd k a) (hb : Bd m b) (hk : k * m ≤ 2000000000000000000) : Calls Tryz.prog 92 #[spV a, spV b] w (Ret w (.int .i64 (Or.dot a b))) := by
  have hB := bx2 w (.cells #[.int .i64 a.x, .int .i64 a.y, .int .i64 a.z] 52) (.cells #[.int .i64 b.x, .int .i64 b.y, .int .i64 b.z] 52)
  obtain ⟨ax, ay, az⟩ := a
  obtain ⟨bx, by_, bz⟩ := b
  obtain ⟨a1, a2, a3⟩ := ha
  obtain ⟨b1, b2, b3⟩ := hb
  simp only at a1 a2 a3 b1 b2 b3 hB
  unfold Or.dot
  simp only
  have h1 := St.mul_bd a1 b1
  obtain ⟨m1, r1⟩ : ∃ u, ax * bx = u := ⟨_, rfl⟩
  have j1 : IntKind.i64.wrap (ax * bx) = m1 := wr r1 (by omega)
  rw [r1] at h1
  have h2 := St.mul_bd a2 b2
  obtain ⟨m2, r2⟩ : ∃ u, ay * by_ = u := ⟨_, rfl⟩
  have j2 : IntKind.i64.wrap (ay * by_) = m2 := wr r2 (by omega)
  rw [r2] at h2
  have h3 := St.mul_bd a3 b3
  obtain ⟨m3, r3⟩ : ∃ u, az * bz = u := ⟨_, rfl⟩
  have j3 : IntKind.i64.wrap (az * bz) = m3 := wr r3 (by omega)
  rw [r3] at h3
  rw [r1, r2, r3]
  obtain ⟨s1, q1⟩ : ∃ u, m1 + m2 = u := ⟨_, rfl⟩
  have l1 : IntKind.i64.wrap (m1 + m2) = s1 := wr q1 (by omega)
  obtain ⟨s2, q2⟩ : ∃ u, s1 + m3 = u := ⟨_, rfl⟩
  have l2 : IntKind.i64.wrap (s1 + m3) = s2 := wr q2 (by omega)
  rw [q1, q2]
  clear q1 q2 r1 r2 r3 h1 h2 h3 a1 a2 a3 b1 b2 b3 hk
  go_enter Tryz.func92, Tryz.ntmps92
  go_wp2
  go_ret
  exact ⟨rfl, hB⟩
set_option maxRecDepth 100000 in
set_option maxHeartbeats 2000000 in
theorem rDotS_c (a b : Or.P3) (k m : Nat) (w : World) (ha : Bd k a) (hb : Bd m b) (hk : k * m ≤ 2000000000000000000) : Calls Tryz.prog 143 #[spV a, spV b] w (Ret w (.int .i64 (Or.dot a b))) := by
  have hB := bx2 w (.cells #[.int .i64 a.x, .int .i64 a.y, .int .i64 a.z] 52) (.cells #[.int .i64 b.x, .int .i64 b.y, .int .i64 b.z] 52)
  obtain ⟨ax, ay, az⟩ := a
  obtain ⟨bx, by_, bz⟩ := b
  obtain ⟨a1, a2, a3⟩ := ha
  obtain ⟨b1, b2, b3⟩ := hb
  simp only at a1 a2 a3 b1 b2 b3 hB
  unfold Or.dot
  simp only
  have h1 := St.mul_bd a1 b1
  obtain ⟨m1, r1⟩ : ∃ u, ax * bx = u := ⟨_, rfl⟩
  have j1 : IntKind.i64.wrap (ax * bx) = m1 := wr r1 (by omega)
  rw [r1] at h1
  have h2 := St.mul_bd a2 b2
  obtain ⟨m2, r2⟩ : ∃ u, ay * by_ = u := ⟨_, rfl⟩
  have j2 : IntKind.i64.wrap (ay * by_) = m2 := wr r2 (by omega)
  rw [r2] at h2
  have h3 := St.mul_bd a3 b3
  obtain ⟨m3, r3⟩ : ∃ u, az * bz = u := ⟨_, rfl⟩
  have j3 : IntKind.i64.wrap (az * bz) = m3 := wr r3 (by omega)
  rw [r3] at h3
  rw [r1, r2, r3]
  obtain ⟨s1, q1⟩ : ∃ u, m1 + m2 = u := ⟨_, rfl⟩
  have l1 : IntKind.i64.wrap (m1 + m2) = s1 := wr q1 (by omega)
  obtain ⟨s2, q2⟩ : ∃ u, s1 + m3 = u := ⟨_, rfl⟩
  have l2 : IntKind.i64.wrap (s1 + m3) = s2 := wr q2 (by omega)
  rw [q1, q2]
  clear q1 q2 r1 r2 r3 h1 h2 h3 a1 a2 a3 b1 b2 b3 hk
  go_enter Tryz.func143, Tryz.ntmps143
  go_wp2
  go_ret
  exact ⟨rfl, hB⟩
set_option maxRecDepth 100000 in
set_option maxHeartbeats 2000000 in
theorem along_f (a b : St.Pt) (k : Nat) (w : World) (ha : (-(k : Int) ≤ a.x ∧ a.x ≤ k) ∧ -(k : Int) ≤ a.y ∧ a.y ≤ k) (hb : (-(k : Int) ≤ b.x ∧ b.x ≤ k) ∧ -(k : Int) ≤ b.y ∧ b.y ≤ k) (hk : k ≤ 1000000000) :
    Calls Tryz.prog 84 #[ptV a, ptV b] w (Ret w (.int .i64 (St.crs a b))) := by
  have h0 : k * k ≤ 1000000000 * 1000000000 := Nat.mul_le_mul hk hk
  have hB := bx2 w (.cells #[.int .i64 a.x, .int .i64 a.y] 42) (.cells #[.int .i64 b.x, .int .i64 b.y] 42)
  obtain ⟨ax, ay⟩ := a
  obtain ⟨bx, by_⟩ := b
  unfold St.crs
  simp only at ha hb hB ⊢
  have h1 := St.mul_bd ha.1 hb.2
  obtain ⟨m1, r1⟩ : ∃ u, ax * by_ = u := ⟨_, rfl⟩
  have j1 : IntKind.i64.wrap (ax * by_) = m1 := wr r1 (by omega)
  rw [r1] at h1
  have h2 := St.mul_bd ha.2 hb.1
  obtain ⟨m2, r2⟩ : ∃ u, ay * bx = u := ⟨_, rfl⟩
  have j2 : IntKind.i64.wrap (ay * bx) = m2 := wr r2 (by omega)
  rw [r2] at h2
  rw [r1, r2]
  obtain ⟨s1, q1⟩ : ∃ u, m1 - m2 = u := ⟨_, rfl⟩
  have l1 : IntKind.i64.wrap (m1 - m2) = s1 := wr q1 (by omega)
  rw [q1]
  clear q1 r1 r2 h0 h1 h2 ha hb hk
  go_enter Tryz.func84, Tryz.ntmps84
  go_wp2
  go_ret
  exact ⟨rfl, hB⟩
set_option maxRecDepth 100000 in
set_option maxHeartbeats 2000000 in
theorem beside_f (a b : St.Pt) (k : Nat) (w : World) (ha : (-(k : Int) ≤ a.x ∧ a.x ≤ k) ∧ -(k : Int) ≤ a.y ∧ a.y ≤ k) (hb : (-(k : Int) ≤ b.x ∧ b.x ≤ k) ∧ -(k : Int) ≤ b.y ∧ b.y ≤ k) (hk : k ≤ 1000000000) :
    Calls Tryz.prog 87 #[ptV a, ptV b] w (Ret w (.int .i64 (St.dot a b))) := by
  have h0 : k * k ≤ 1000000000 * 1000000000 := Nat.mul_le_mul hk hk
  have hB := bx2 w (.cells #[.int .i64 a.x, .int .i64 a.y] 42) (.cells #[.int .i64 b.x, .int .i64 b.y] 42)
  obtain ⟨ax, ay⟩ := a
  obtain ⟨bx, by_⟩ := b
  unfold St.dot
  simp only at ha hb hB ⊢
  have h1 := St.mul_bd ha.1 hb.1
  obtain ⟨m1, r1⟩ : ∃ u, ax * bx = u := ⟨_, rfl⟩
  have j1 : IntKind.i64.wrap (ax * bx) = m1 := wr r1 (by omega)
  rw [r1] at h1
  have h2 := St.mul_bd ha.2 hb.2
  obtain ⟨m2, r2⟩ : ∃ u, ay * by_ = u := ⟨_, rfl⟩
  have j2 : IntKind.i64.wrap (ay * by_) = m2 := wr r2 (by omega)
  rw [r2] at h2
  rw [r1, r2]
  obtain ⟨s1, q1⟩ : ∃ u, m1 + m2 = u := ⟨_, rfl⟩
  have l1 : IntKind.i64.wrap (m1 + m2) = s1 := wr q1 (by omega)
  rw [q1]
  clear q1 r1 r2 h0 h1 h2 ha hb hk
  go_enter Tryz.func87, Tryz.ntmps87
  go_wp2
  go_ret
  exact ⟨rfl, hB⟩
end Go.Proofs.Wk
/- SQUARENESS: squared lengths, quotients of squares. -/
namespace Go.Proofs.Wk
open Go.RowKit Mt

theorem sq_bdS {n : Int} {k : Nat} (h : -(k : Int) ≤ n ∧ n ≤ k) : -((k * k : Nat) : Int) ≤ n * n ∧ n * n ≤ ((k * k : Nat) : Int) := St.mul_bd h h
theorem lngV {n : Int} (h : -4000000000000000000 ≤ n ∧ n ≤ 4000000000000000000) : lng n ≤ 20 := by
  refine lng_bd (by decide) ?_
  have e : (4000000000000000000 : Nat) < 10 ^ 20 := by decide
  omega
theorem lngVV {n : Int} (h : -4000000000000000000 ≤ n ∧ n ≤ 4000000000000000000) : lng (n * n) ≤ 40 := lng_mul n n (lngV h) (lngV h)
theorem chk_lng {n : Int} (h : lng n ≤ 1024) : chk (Lib.itoa n) = 0 := by rw [chk_itoa, if_pos (lng_big2 h)]
theorem tot3 {a b c : Int} (ha : lng a ≤ 40) (hb : lng b ≤ 40) (hc : lng c ≤ 40) : tot2 [Lib.itoa a, Lib.itoa b, Lib.itoa c] = (Lib.itoa (a + b + c), 0) := by
  unfold tot2
  have h1 : firstErr [Lib.itoa a, Lib.itoa b, Lib.itoa c] = 0 := by
    unfold firstErr; rw [if_pos (chk_lng (by omega))]
    unfold firstErr; rw [if_pos (chk_lng (by omega))]
    unfold firstErr; rw [if_pos (chk_lng (by omega))]
    rfl
  rw [if_neg (by simp), if_pos h1]
  have h2 : ([Lib.itoa a, Lib.itoa b, Lib.itoa c].map val).sum = a + b + c := by simp [val_itoa]; omega
  rw [h2]
  have h3 := lng_add a b ha hb
  have h4 := lng_add (a + b) c h3 (Nat.le_trans hc (by decide))
  exact kept_lng (by omega)
/-- The k-th coordinate. -/
def nthC (v : Or.P3) (k : Nat) : Int := if k = 0 then v.x else if k = 1 then v.y else v.z
def sqsT (v : Or.P3) (k : Nat) : List Txt := (List.range k).map fun j => Lib.itoa (nthC v j * nthC v j)
theorem sqsT_succ (v : Or.P3) (k : Nat) : sqsT v (k + 1) = sqsT v k ++ [Lib.itoa (nthC v k * nthC v k)] := by unfold sqsT; rw [List.range_succ, List.map_append]; rfl
theorem sqsT_len (v : Or.P3) (k : Nat) : (sqsT v k).length = k := by unfold sqsT; rw [List.length_map, List.length_range]
theorem sqsT_all (v : Or.P3) : sqsT v 3 = [Lib.itoa (v.x * v.x), Lib.itoa (v.y * v.y), Lib.itoa (v.z * v.z)] := rfl
theorem nthC_bd {v : Or.P3} (h : Bd 4000000000000000000 v) (k : Nat) : -4000000000000000000 ≤ nthC v k ∧ nthC v k ≤ 4000000000000000000 := by
  obtain ⟨h1, h2, h3⟩ := h
  unfold nthC
  split
  · exact h1
  · split
    · exact h2
    · exact h3
theorem nthC_cell {W : World} {g : Nat} {v : Or.P3} {t : TypeId} (h : W.heap[g]? = some (.cells #[.int .i64 v.x, .int .i64 v.y, .int .i64 v.z] t (0, 0))) {k : Nat} (hk : k < 3) : W.cell? ⟨g, k, none⟩ = some (.int .i64 (nthC v k)) := by
  rw [cell_of_row _ _ _ _ _ _ h]
  rcases (by omega : k = 0 ∨ k = 1 ∨ k = 2) with rfl | rfl | rfl <;> rfl
theorem keepD {w w' : World} {g : Nat} {o : Obj} (h : w.heap[g]? = some o) (hb : Below w.heap.size w w') : w'.heap[g]? = some o := (hb.block _ (Array.getElem?_eq_some_iff.1 h).1).trans h
set_option maxRecDepth 100000 in
set_option maxHeartbeats 2000000 in
theorem long_c (v : Or.P3) (w : World) (hg : Good w) (hv : Bd 4000000000000000000 v) : Calls Tryz.prog 95 #[spV v] w (Ret w (ans2 (Lib.itoa (Or.dot v v), 0))) := by
  have HF := Lib.hid (fun n W (h : Below w.heap.size w W) (hn : -4000000000000000000 ≤ n ∧ n ≤ 4000000000000000000) => wOf_c n W (hg.later h) (by omega) (by omega))
  have HM := Lib.hid (fun n W (h : Below w.heap.size w W) (hn : -4000000000000000000 ≤ n ∧ n ≤ 4000000000000000000) => mulI n n W (hg.later h) (Nat.le_trans (lngV hn) (by decide)) (Nat.le_trans (lngV hn) (by decide)) (Nat.le_trans (lngVV hn) (by decide)))
  have HT := Lib.hid (fun (V : Value) W (h : Below w.heap.size w W) (hs : SlS W V (sqsT v 3)) => by
    have := wTotal_c (sqsT v 3) W (hg.later h) hs (by rw [sqsT_len]; omega) (fun l hl => by
      unfold sqsT at hl
      obtain ⟨j, -, rfl⟩ := List.mem_map.1 hl
      exact txt_ok (Nat.le_trans (lngVV (nthC_bd hv j)) (by decide)))
    rwa [sqsT_all, tot3 (a := v.x * v.x) (b := v.y * v.y) (c := v.z * v.z) (lngVV (nthC_bd hv 0)) (lngVV (nthC_bd hv 1)) (lngVV (nthC_bd hv 2)), show v.x * v.x + v.y * v.y + v.z * v.z = Or.dot v v from rfl] at this)
  have HBD := Lib.hid (nthC_bd hv)
  have hA := bx2 w (.cells #[.int .i64 v.x, .int .i64 v.y, .int .i64 v.z] 52) (.cells #[.int .i64 v.x, .int .i64 v.y, .int .i64 v.z] 3)
  have hC := new2 w (.cells #[.int .i64 v.x, .int .i64 v.y, .int .i64 v.z] 52) (.cells #[.int .i64 v.x, .int .i64 v.y, .int .i64 v.z] 3)
  generalize Lib.itoa (Or.dot v v) = T at *
  have HSQ := Lib.hid (sqsT_succ v)
  have HLN := Lib.hid (sqsT_len v)
  have HCL := Lib.hid (fun (W : World) (g k : Nat) (hk : k < 3) (h : W.heap[g]? = some (.cells #[.int .i64 v.x, .int .i64 v.y, .int .i64 v.z] 3 (0, 0))) => nthC_cell h hk)
  have HS0 := Lib.hid (show sqsT v 0 = [] from rfl)
  generalize sqsT v = L at *
  generalize nthC v = c at *
  obtain ⟨x, y, z⟩ := v
  simp only at hA hC HCL
  clear hg hv
  go_enter Tryz.func95, Tryz.ntmps95
  go_wp2_with fail
  generalize (w.alloc (.cells #[.int .i64 x, .int .i64 y, .int .i64 z] 52)).alloc (.cells #[.int .i64 x, .int .i64 y, .int .i64 z] 3) = W0 at *
  go_loopw [4, 17] (fun sv si wr => ∃ k : Nat, si = .int .i64 (k : Int) ∧ k ≤ 3 ∧ Hid (OwT 97 wr W0.heap.size sv (L k)) ∧ Hid (Below W0.heap.size W0 wr)) (fun _ si _ => 3 - (intOf si).toNat)
  case atStart => exact ⟨0, rfl, Nat.zero_le _, by rw [HS0.out]; exact OwT.nil _ _ _, Below.refl _ _⟩
  case round =>
    obtain ⟨k, rfl, hk, hO, hB⟩ := hrel
    by_cases hlt : k < 3
    · have c0 := HCL.out _ _ k hlt (keepD hC hB.out)
      have hn := HBD.out k
      have HST := Lib.hid (HSQ.out k)
      generalize c k = n at *
      have HN := Lib.hid hn
      clear hn
      have z3 : (k : Int) < 3 := by omega
      go_wp2_with fail
      ((with_reducible refine (HF.out n _ (hA.nx hB.out) HN.out).mono ?_); rintro e w1 ⟨rfl, hb1⟩)
      have B1 := Lib.hid (hB.out.nx hb1)
      have O1 := Lib.hid (hO.out.later hb1)
      clear hb1
      go_wp2_with fail
      ((with_reducible refine (HF.out n _ (hA.nx B1.out) HN.out).mono ?_); rintro e w2 ⟨rfl, hb2⟩)
      have B2 := Lib.hid (B1.out.nx hb2)
      have O2 := Lib.hid (O1.out.later hb2)
      clear hb2 O1
      go_wp2_with fail
      ((with_reducible refine (HM.out n _ (hA.nx B2.out) HN.out).mono ?_); rintro e w3 ⟨rfl, hb3⟩)
      have hal := below_al w3 (.cells #[txt (Lib.itoa (n * n))] 97)
      have B3 := Lib.hid ((B2.out.nx hb3).nx hal)
      have O3 := Lib.hid ((O2.out.later hb3).later hal)
      have HC5 := Lib.hid (show (w3.alloc (.cells #[txt (Lib.itoa (n * n))] 97)).cell? ⟨w3.heap.size, 0, none⟩ = some (txt (Lib.itoa (n * n))) by
        rw [cell_of_row _ _ _ _ _ _ (heap_alloc_new w3 _)]; rfl)
      clear hb3 hal O2 c0 hO
      go_wp2_with (at_builtin; refine wpList_app_txt rfl _ _ 140 97 rfl Tryz.underlying140 (by kernel_rfl) W0.heap.size _ (L k) rfl O3.out w3.heap.size (Lib.itoa (n * n)) rfl HC5.out (by rw [HLN.out]; omega) B3.out.size ?_)
      · intro v' w6 hO6 hb6
        rw [← HST.out] at hO6
        have HO6 := Lib.hid hO6
        have HB6 := Lib.hid (B3.out.trans hb6)
        clear hO6 hb6
        go_wp2
        go_roundw
        case rel => exact ⟨k + 1, by go_num, by omega, HO6.out, HB6.out⟩
        case measure => simp [intOf]; omega
    · obtain rfl : k = 3 := by omega
      have HS := Lib.hid hO.out.sl
      clear hO
      go_wp2_with fail
      ((with_reducible refine (HT.out _ _ (hA.nx hB.out) HS.out).mono ?_); rintro e w2 ⟨rfl, hb2⟩)
      have hB2 := (hA.nx hB.out).nx hb2
      go_wp2
      go_ret2
      exact ⟨rfl, hB2⟩
theorem lng_dotV {v : Or.P3} (hv : Bd 4000000000000000000 v) : lng (Or.dot v v) ≤ 42 := by
  obtain ⟨h1, h2, h3⟩ := hv
  have a1 := lng_add (v.x * v.x) (v.y * v.y) (lngVV h1) (lngVV h2)
  have a2 := lng_add (v.x * v.x + v.y * v.y) (v.z * v.z) a1 (Nat.le_trans (lngVV h3) (by decide))
  exact a2
set_option maxRecDepth 100000 in
set_option maxHeartbeats 2000000 in
theorem rLongS_c (v : Or.P3) (w : World) (hv : Bd 4000000000000000000 v) : Calls Tryz.prog 161 #[spV v] w (Ret w (.string ⟨(Lib.itoa (Or.dot v v)).toArray⟩)) := by
  have HF := Lib.hid (fun n W (hn : -4000000000000000000 ≤ n ∧ n ≤ 4000000000000000000) => Of_c n W (by omega) (by omega))
  have HM := Lib.hid (fun n W (hn : -4000000000000000000 ≤ n ∧ n ≤ 4000000000000000000) => Times_c n n W (Nat.le_trans (lngV hn) (by decide)) (Nat.le_trans (lngV hn) (by decide)))
  have HBD := Lib.hid (nthC_bd hv)
  obtain ⟨S, hS⟩ : ∃ S : Nat → Int, S = fun k => ((List.range k).map fun j => nthC v j * nthC v j).sum := ⟨_, rfl⟩
  have HS0 := Lib.hid (show S 0 = 0 by rw [hS]; rfl)
  have HSS := Lib.hid (fun k => show S (k + 1) = S k + nthC v k * nthC v k by rw [hS]; simp only [List.range_succ, List.map_append, List.sum_append, List.map_cons, List.map_nil, List.sum_cons, List.sum_nil]; omega)
  have HS3 := Lib.hid (show S 3 = Or.dot v v by rw [HSS.out 2, HSS.out 1, HSS.out 0, HS0.out]; unfold nthC Or.dot; simp)
  have HSL := Lib.hid (fun k (hk : k ≤ 3) => show lng (S k) ≤ 43 by
    have h0 : lng (S 0) ≤ 40 := by rw [HS0.out]; exact Nat.le_trans lng_0 (by decide)
    have h1 : lng (S 1) ≤ 41 := by rw [HSS.out 0]; exact lng_add _ _ h0 (lngVV (HBD.out 0))
    have h2 : lng (S 2) ≤ 42 := by rw [HSS.out 1]; exact lng_add _ _ h1 (Nat.le_trans (lngVV (HBD.out 1)) (by decide))
    have h3 : lng (S 3) ≤ 43 := by rw [HSS.out 2]; exact lng_add _ _ h2 (Nat.le_trans (lngVV (HBD.out 2)) (by decide))
    rcases (by omega : k = 0 ∨ k = 1 ∨ k = 2 ∨ k = 3) with rfl | rfl | rfl | rfl <;> omega)
  have hA := bx2 w (.cells #[.int .i64 v.x, .int .i64 v.y, .int .i64 v.z] 52) (.cells #[.int .i64 v.x, .int .i64 v.y, .int .i64 v.z] 3)
  have hC := new2 w (.cells #[.int .i64 v.x, .int .i64 v.y, .int .i64 v.z] 52) (.cells #[.int .i64 v.x, .int .i64 v.y, .int .i64 v.z] 3)
  have HCL := Lib.hid (fun (W : World) (g k : Nat) (hk : k < 3) (h : W.heap[g]? = some (.cells #[.int .i64 v.x, .int .i64 v.y, .int .i64 v.z] 3 (0, 0))) => nthC_cell h hk)
  have HI0 := Lib.hid itoa_zero
  generalize Or.dot v v = D at *
  generalize nthC v = c at *
  obtain ⟨x, y, z⟩ := v
  simp only at hA hC HCL
  clear hv hS
  go_enter Tryz.func161, Tryz.ntmps161
  go_wp2_with fail
  generalize (w.alloc (.cells #[.int .i64 x, .int .i64 y, .int .i64 z] 52)).alloc (.cells #[.int .i64 x, .int .i64 y, .int .i64 z] 3) = W0 at *
  go_loopw [3, 14] (fun sv si wr => ∃ k : Nat, si = .int .i64 (k : Int) ∧ k ≤ 3 ∧ sv = .string ⟨(Lib.itoa (S k)).toArray⟩ ∧ Hid (Below W0.heap.size W0 wr)) (fun _ si _ => 3 - (intOf si).toNat)
  case atStart => exact ⟨0, rfl, Nat.zero_le _, by rw [HS0.out, HI0.out], Below.refl _ _⟩
  case round =>
    obtain ⟨k, rfl, hk, rfl, hB⟩ := hrel
    by_cases hlt : k < 3
    · have c0 := HCL.out _ _ k hlt (keepD hC hB.out)
      have hn := HBD.out k
      have HST := Lib.hid (HSS.out k)
      have HL := Lib.hid (HSL.out k hk)
      generalize c k = n at *
      have HN := Lib.hid hn
      clear hn
      have HP := Lib.hid (fun W => by have := Plus_c (S k) (n * n) W (Nat.le_trans HL.out (by decide)) (Nat.le_trans (lngVV HN.out) (by decide)); rwa [← HST.out] at this)
      generalize S k = s at *
      have z3 : (k : Int) < 3 := by omega
      go_wp2_with fail
      ((with_reducible refine (HF.out n _ HN.out).mono ?_); rintro e w1 ⟨rfl, hb1⟩)
      have B1 := Lib.hid (hB.out.nx hb1)
      clear hb1
      go_wp2_with fail
      ((with_reducible refine (HF.out n _ HN.out).mono ?_); rintro e w2 ⟨rfl, hb2⟩)
      have B2 := Lib.hid (B1.out.nx hb2)
      clear hb2
      go_wp2_with fail
      ((with_reducible refine (HM.out n _ HN.out).mono ?_); rintro e w3 ⟨rfl, hb3⟩)
      have B3 := Lib.hid (B2.out.nx hb3)
      clear hb3 c0
      go_wp2_with fail
      ((with_reducible refine (HP.out _).mono ?_); rintro e w4 ⟨rfl, hb4⟩)
      have B4 := Lib.hid (B3.out.nx hb4)
      clear hb4
      go_wp2
      go_roundw
      case rel => exact ⟨k + 1, by go_num, by omega, by rw [HST.out], B4.out⟩
      case measure => simp [intOf]; omega
    · obtain rfl : k = 3 := by omega
      have hB2 := hA.nx hB.out
      rw [HS3.out]
      go_wp2
      go_ret
      exact ⟨rfl, hB2⟩
/-- A square over a squared length, of the program and of the reference. -/
def sqd (n : Int) (v : Or.P3) : Rat := Rat.divInt (n * n) (Or.dot v v)
set_option maxRecDepth 100000 in
set_option maxHeartbeats 2000000 in
theorem osquared_c (n : Int) (v : Or.P3) (w : World) (hg : Good w) (hn : -4000000000000000000 ≤ n ∧ n ≤ 4000000000000000000) (hv : Bd 4000000000000000000 v) (h0 : v ≠ ⟨0, 0, 0⟩) :
    Calls Tryz.prog 93 #[.int .i64 n, spV v] w (Ret w (ans2 (rtoa (sqd n v), 0))) := by
  have hd := Or.dot_pos h0
  have HL := Lib.hid (fun W (h : Below w.heap.size w W) => long_c v W (hg.later h) hv)
  have HF := Lib.hid (fun W (h : Below w.heap.size w W) => wOf_c n W (hg.later h) (by omega) (by omega))
  have HM := Lib.hid (fun W (h : Below w.heap.size w W) => mulI n n W (hg.later h) (Nat.le_trans (lngV hn) (by decide)) (Nat.le_trans (lngV hn) (by decide)) (Nat.le_trans (lngVV hn) (by decide)))
  have HK := Lib.hid (fun W (h : Below w.heap.size w W) => by
    have b1 : lng (n * n) ≤ 1024 := Nat.le_trans (lngVV hn) (by decide)
    have b2 : lng (Or.dot v v) ≤ 1024 := Nat.le_trans (lng_dotV hv) (by decide)
    have := qMake_c (Lib.itoa (n * n)) (Lib.itoa (Or.dot v v)) W (hg.later h) (txt_ok b1) (txt_ok b2)
    rwa [mk2_itoa (lng_big2 b1) (lng_big2 b2), show makQ (n * n) (Or.dot v v) = (rtoa (sqd n v), 0) from if_neg (by omega)] at this)
  have hA := below_al w (.cells #[.int .i64 v.x, .int .i64 v.y, .int .i64 v.z] 52)
  generalize Lib.itoa (Or.dot v v) = T at *
  generalize rtoa (sqd n v) = R at *
  generalize Lib.itoa (n * n) = NN at *
  generalize Lib.itoa n = TN at *
  obtain ⟨x, y, z⟩ := v
  simp only at hA
  clear hd hg hn hv h0
  go_enter Tryz.func93, Tryz.ntmps93
  go_wp2_with fail
  ((with_reducible refine (HL.out _ hA).mono ?_); rintro e w1 ⟨rfl, hb1⟩)
  have hB1 := hA.nx hb1
  go_wp2_with fail
  ((with_reducible refine (HF.out _ hB1).mono ?_); rintro e w2 ⟨rfl, hb2⟩)
  have hB2 := hB1.nx hb2
  go_wp2_with fail
  ((with_reducible refine (HF.out _ hB2).mono ?_); rintro e w3 ⟨rfl, hb3⟩)
  have hB3 := hB2.nx hb3
  go_wp2_with fail
  ((with_reducible refine (HM.out _ hB3).mono ?_); rintro e w4 ⟨rfl, hb4⟩)
  have hB4 := hB3.nx hb4
  go_wp2_with fail
  ((with_reducible refine (HK.out _ hB4).mono ?_); rintro e w5 ⟨rfl, hb5⟩)
  have hB5 := hB4.nx hb5
  go_wp2
  go_ret2
  exact ⟨rfl, hB5⟩
set_option maxRecDepth 100000 in
set_option maxHeartbeats 2000000 in
theorem rSquare_c (n d : Int) (w : World) (hn : -4000000000000000000 ≤ n ∧ n ≤ 4000000000000000000) (hd : lng d ≤ 1024) (h0 : d ≠ 0) :
    Calls Tryz.prog 160 #[.int .i64 n, .string ⟨(Lib.itoa d).toArray⟩] w (Ret w (.string ⟨(rtoa (Rat.divInt (n * n) d)).toArray⟩)) := by
  have H1 := Lib.hid (fun W => Of_c n W (by omega) (by omega))
  have H2 := Lib.hid (fun W => Times_c n n W (Nat.le_trans (lngV hn) (by decide)) (Nat.le_trans (lngV hn) (by decide)))
  have H4 := Lib.hid (fun W => Lowest_c (n * n) d W (Nat.le_trans (lngVV hn) (by decide)) (Nat.le_trans hd (by decide)) h0)
  have hB0 := Below.refl w.heap.size w
  clear hn hd h0
  generalize rtoa (Rat.divInt (n * n) d) = T at *
  generalize Lib.itoa n = tn at *
  generalize Lib.itoa d = td at *
  generalize Lib.itoa (n * n) = tnn at *
  go_enter Tryz.func160, Tryz.ntmps160
  go_wp2_with fail
  ((with_reducible refine (H1.out _).mono ?_); rintro e w1 ⟨rfl, hb1⟩)
  have hB1 := hB0.trans (hb1.mono hB0.size); clear hb1
  go_wp2_with fail
  ((with_reducible refine (H2.out _).mono ?_); rintro e w2 ⟨rfl, hb2⟩)
  have hB2 := hB1.trans (hb2.mono hB1.size); clear hb2
  go_wp2_with fail
  ((with_reducible refine (H4.out _).mono ?_); rintro e w3 ⟨rfl, hb3⟩)
  have hB3 := hB2.trans (hb3.mono hB2.size); clear hb3
  go_wp2
  go_ret
  exact ⟨rfl, hB3⟩
end Go.Proofs.Wk
