/- STRAIGHTNESS: the square of a proof; the reference's Supports and Farthest. -/
import Derived.Test.YtjopphkhpmoedaaGreatDoorSbF
import Derived.Test.YtjopphkhpmoedaaGreatDoorHD
namespace Go.Proofs.Wk
open Go.RowKit Mt

/-- What 'square' reads. -/
structure SqR (w W : World) (b o1 o2 : Nat) (a c : St.Pt) (x : St.Prf) : Prop where
  a : PtAt W b o1 a
  c : PtAt W b o2 c
  x : W.heap[w.heap.size]? = some (.cells (prfC x) 88 (0, 0))
  w : Below w.heap.size w W
theorem SqR.later {w W W' : World} {b o1 o2 : Nat} {a c : St.Pt} {x : St.Prf} (h : SqR w W b o1 o2 a c x) (hb : Below W.heap.size W W') : SqR w W' b o1 o2 a c x :=
  ⟨h.a.later hb, h.c.later hb, by rw [hb.block _ (Array.getElem?_eq_some_iff.1 h.x).1]; exact h.x, h.w.nx hb⟩
theorem SqR.drew {w W : World} {b o1 o2 : Nat} {a c : St.Pt} {x : St.Prf} (h : SqR w W b o1 o2 a c x) : SqR w W.drew b o1 o2 a c x := ⟨h.a.drew, h.c.drew, h.x, h.w.drew⟩
theorem SqR.t {w W : World} {b o1 o2 : Nat} {ax ay cx cy : Int} {i j : Nat} {area : Int} {far : Nat} (h : SqR w W b o1 o2 ⟨ax, ay⟩ ⟨cx, cy⟩ ⟨i, j, area, far⟩) :
    W.cell? ⟨b, o1, none⟩ = some (.int .i64 ax) ∧ W.cell? ⟨b, o1 + 1, none⟩ = some (.int .i64 ay) ∧ W.cell? ⟨b, o2, none⟩ = some (.int .i64 cx) ∧ W.cell? ⟨b, o2 + 1, none⟩ = some (.int .i64 cy) ∧
    W.cell? ⟨w.heap.size, 0, none⟩ = some (.int .i64 (i : Int)) ∧ W.cell? ⟨w.heap.size, 1, none⟩ = some (.int .i64 (j : Int)) ∧ W.cell? ⟨w.heap.size, 2, none⟩ = some (.int .i64 area) ∧ SqR w W b o1 o2 ⟨ax, ay⟩ ⟨cx, cy⟩ ⟨i, j, area, far⟩ := by
  obtain ⟨d0, d1, d2, d3⟩ := c4row h.x
  exact ⟨h.a.c0, h.a.c1, h.c.c0, h.c.c1, d0, d1, d2, h⟩
set_option maxRecDepth 100000 in
set_option maxHeartbeats 4000000 in
theorem square_c {v : Value} (ls : List St.Pt) (x : St.Prf) (w : World) (hg : Good w) (S : SlX w v ls) (hin : ∀ p ∈ ls, St.InP p) (hi : x.i < ls.length) (hj : x.j < ls.length) (hne : St.at_ ls x.i ≠ St.at_ ls x.j)
    (ha : 0 ≤ x.area ∧ x.area ≤ 80000000000) (hn : ls.length ≤ 64) : Calls Tryz.prog 79 #[prfV x, v] w (Ret w (.string ⟨(rtoa (St.wv ls x)).toArray⟩)) := by
  refine S.cases _ ?_ ?_
  · rintro a cap rfl rfl
    simp at hi
  rintro b off cap rfl hp hR hb
  have hx0 : Below w.heap.size w (w.alloc (.cells (prfC x) 88)) := below_al w _
  have hr0 : SqR w (w.alloc (.cells (prfC x) 88)) b (off + x.i * 2) (off + x.j * 2) (St.at_ ls x.i) (St.at_ ls x.j) x :=
    ⟨(hR.later hx0 hb).ptAt hi, (hR.later hx0 hb).ptAt hj, heap_alloc_new w _, hx0⟩
  have HS := Lib.hid (fun W hW => squared_g x.area (St.at_ ls x.i) (St.at_ ls x.j) W hW (by omega) (St.at_in hin hi) (St.at_in hin hj) hne)
  have HG := Lib.hid (fun W (h : Below w.heap.size w W) => hg.later h)
  have hwv : St.wv ls x = St.wq x.area (St.at_ ls x.i) (St.at_ ls x.j) := rfl
  rw [hwv]
  generalize rtoa (St.wq x.area (St.at_ ls x.i) (St.at_ ls x.j)) = T at *
  generalize St.at_ ls x.i = a at *
  generalize St.at_ ls x.j = c at *
  obtain ⟨i, j, area, far⟩ := x
  obtain ⟨ax, ay⟩ := a
  obtain ⟨cx, cy⟩ := c
  simp only at hr0 hi hj hx0
  have HR0 := Lib.hid hr0
  clear hR hr0 hne ha hin hwv hg hx0
  go_enter Tryz.func79, Tryz.ntmps79
  go_wp2_with fail
  generalize w.alloc (.cells #[.int .i64 (i : Int), .int .i64 (j : Int), .int .i64 area, .int .i64 (far : Int)] 88) = W1 at *
  go_region_held3 (fun w' => w'.cell? ⟨b, off + i * 2, none⟩ = some (.int .i64 ax) ∧ w'.cell? ⟨b, off + i * 2 + 1, none⟩ = some (.int .i64 ay) ∧ w'.cell? ⟨b, off + j * 2, none⟩ = some (.int .i64 cx) ∧ w'.cell? ⟨b, off + j * 2 + 1, none⟩ = some (.int .i64 cy) ∧
      w'.cell? ⟨w.heap.size, 0, none⟩ = some (.int .i64 (i : Int)) ∧ w'.cell? ⟨w.heap.size, 1, none⟩ = some (.int .i64 (j : Int)) ∧ w'.cell? ⟨w.heap.size, 2, none⟩ = some (.int .i64 area) ∧ SqR w w' b (off + i * 2) (off + j * 2) ⟨ax, ay⟩ ⟨cx, cy⟩ ⟨i, j, area, far⟩)
    (first | exact JJ.t | exact HR0.out.t | exact HR0.out.drew.t)
    (first
      | (go_at_call 96; (with_reducible refine (HS.out _ ?_).mono ?_); (first | exact HG.out _ HR0.out.drew.w | exact HG.out _ HR0.out.w); rintro e w1 ⟨rfl, hb1⟩; (first | have JJ := HR0.out.drew.later hb1 | have JJ := HR0.out.later hb1))
      | fail)
  all_goals
    have hJ := JJ.w
    clear JJ
    go_wp2
    go_ret
    exact ⟨rfl, hJ⟩
/-- Three points in a row. -/
structure P3R (w W : World) (b o1 o2 o3 : Nat) (a c p : St.Pt) : Prop where
  a : PtAt W b o1 a
  c : PtAt W b o2 c
  p : PtAt W b o3 p
  w : Below w.heap.size w W
theorem P3R.later {w W W' : World} {b o1 o2 o3 : Nat} {a c p : St.Pt} (h : P3R w W b o1 o2 o3 a c p) (hb : Below W.heap.size W W') : P3R w W' b o1 o2 o3 a c p := ⟨h.a.later hb, h.c.later hb, h.p.later hb, h.w.nx hb⟩
theorem P3R.drew {w W : World} {b o1 o2 o3 : Nat} {a c p : St.Pt} (h : P3R w W b o1 o2 o3 a c p) : P3R w W.drew b o1 o2 o3 a c p := ⟨h.a.drew, h.c.drew, h.p.drew, h.w.drew⟩
theorem P3R.t {w W : World} {b o1 o2 o3 : Nat} {ax ay cx cy px py : Int} (h : P3R w W b o1 o2 o3 ⟨ax, ay⟩ ⟨cx, cy⟩ ⟨px, py⟩) :
    W.cell? ⟨b, o1, none⟩ = some (.int .i64 ax) ∧ W.cell? ⟨b, o1 + 1, none⟩ = some (.int .i64 ay) ∧ W.cell? ⟨b, o2, none⟩ = some (.int .i64 cx) ∧ W.cell? ⟨b, o2 + 1, none⟩ = some (.int .i64 cy) ∧
    W.cell? ⟨b, o3, none⟩ = some (.int .i64 px) ∧ W.cell? ⟨b, o3 + 1, none⟩ = some (.int .i64 py) ∧ P3R w W b o1 o2 o3 ⟨ax, ay⟩ ⟨cx, cy⟩ ⟨px, py⟩ :=
  ⟨h.a.c0, h.a.c1, h.c.c0, h.c.c1, h.p.c0, h.p.c1, h⟩
theorem rs_drop {ls : List St.Pt} {k : Nat} (hk : k < ls.length) (a b : St.Pt) (s : Bool × Bool) : St.rsF a b (ls.drop k) s = St.rsF a b (ls.drop (k + 1)) (s.1 || decide (0 < St.left a b (St.at_ ls k)), s.2 || decide (St.left a b (St.at_ ls k) < 0)) := by
  rw [List.drop_eq_getElem_cons hk, St.rsF, St.at_get hk]
set_option maxRecDepth 100000 in
set_option maxHeartbeats 4000000 in
theorem rSupports_c {v : Value} (ls : List St.Pt) (i j : Nat) (w : World) (S : SlX w v ls) (hin : ∀ p ∈ ls, St.InP p) (hi : i < ls.length) (hj : j < ls.length) (hn : ls.length ≤ 64) :
    Calls Tryz.prog 117 #[v, .int .i64 (i : Int), .int .i64 (j : Int)] w (Ret w (.bool (St.okP ls i j))) := by
  refine S.cases _ ?_ ?_
  · rintro a cap rfl rfl
    simp at hi
  rintro b off cap rfl hp hR hb
  have hE : St.rsF (St.at_ ls i) (St.at_ ls j) (ls.drop 0) (false, false) = St.rsF (St.at_ ls i) (St.at_ ls j) ls (false, false) := rfl
  have hO := (St.supports_eq ls i j).symm
  have hpa := St.at_in hin hi
  have hpc := St.at_in hin hj
  have hAA := fun (W : World) (h : Below w.heap.size w W) => (hR.later h hb).ptAt hi
  have hCC := fun (W : World) (h : Below w.heap.size w W) => (hR.later h hb).ptAt hj
  generalize St.rsF (St.at_ ls i) (St.at_ ls j) ls (false, false) = E at *
  generalize St.okP ls i j = B0 at *
  generalize St.at_ ls i = a at *
  generalize St.at_ ls j = c at *
  have HL := Lib.hid (fun (p : St.Pt) (hp : St.InP p) (W : World) => rLeft_c a c p W hpa hpc hp)
  have HR := Lib.hid hR
  have HIN := Lib.hid (fun (k : Nat) (hk : k < ls.length) => St.at_in hin hk)
  have HO := Lib.hid hO
  have HE := Lib.hid hE
  have HAA := Lib.hid hAA
  have HCC := Lib.hid hCC
  clear hO hpa hpc hR hE hin hAA hCC
  obtain ⟨ax, ay⟩ := a
  obtain ⟨cx, cy⟩ := c
  go_enter Tryz.func117, Tryz.ntmps117
  go_wp2_with fail
  go_loopw [7, 8, 9] (fun sl sr sk wr => ∃ (k : Nat) (b1 b2 : Bool), sl = .bool b1 ∧ sr = .bool b2 ∧ sk = .int .i64 (k : Int) ∧ k ≤ ls.length ∧ Hid (St.rsF ⟨ax, ay⟩ ⟨cx, cy⟩ (ls.drop k) (b1, b2) = E) ∧ Below w.heap.size w wr)
    (fun _ _ sk _ => ls.length - (intOf sk).toNat)
  case atStart => exact ⟨0, false, false, rfl, rfl, rfl, Nat.zero_le _, HE.out, Below.refl _ _⟩
  case round =>
    obtain ⟨k, b1, b2, rfl, rfl, rfl, hk, hs, hB⟩ := hrel
    by_cases hlt : k < ls.length
    · have hst := hs.out
      rw [rs_drop hlt] at hst
      have hip := HIN.out k hlt
      have hr0 : P3R w wr b (off + i * 2) (off + j * 2) (off + k * 2) ⟨ax, ay⟩ ⟨cx, cy⟩ (St.at_ ls k) := ⟨HAA.out _ hB, HCC.out _ hB, (HR.out.later hB hb).ptAt hlt, hB⟩
      generalize St.at_ ls k = p at *
      have hl := fun W => HL.out p hip W
      generalize St.left ⟨ax, ay⟩ ⟨cx, cy⟩ p = n at *
      obtain ⟨px, py⟩ := p
      have HN := Lib.hid hl
      have HST := Lib.hid hst
      have HR0 := Lib.hid hr0
      clear hl hr0 hst hs hip
      go_wp2_with fail
      go_region_held3 (fun w' => w'.cell? ⟨b, off + i * 2, none⟩ = some (.int .i64 ax) ∧ w'.cell? ⟨b, off + i * 2 + 1, none⟩ = some (.int .i64 ay) ∧ w'.cell? ⟨b, off + j * 2, none⟩ = some (.int .i64 cx) ∧ w'.cell? ⟨b, off + j * 2 + 1, none⟩ = some (.int .i64 cy) ∧
          w'.cell? ⟨b, off + k * 2, none⟩ = some (.int .i64 px) ∧ w'.cell? ⟨b, off + k * 2 + 1, none⟩ = some (.int .i64 py) ∧ P3R w w' b (off + i * 2) (off + j * 2) (off + k * 2) ⟨ax, ay⟩ ⟨cx, cy⟩ ⟨px, py⟩)
        (first | exact JJ.t | exact HR0.out.t | exact HR0.out.drew.t)
        (first
          | (go_at_call 24; (with_reducible refine (HN.out _).mono ?_); rintro e w1 ⟨rfl, hb1⟩; (first | have JJ := HR0.out.drew.later hb1 | have JJ := HR0.out.later hb1))
          | fail)
      all_goals
        have hJ := JJ.w
        clear JJ
        cases b1 <;> cases b2
        all_goals
          go_wp2
          go_roundw
          case rel => exact ⟨k + 1, _, _, rfl, rfl, by go_num, by omega, HST.out, hJ⟩
          case measure => simp [intOf]; omega
    · obtain rfl : k = ls.length := by omega
      have hs := hs.out
      rw [List.drop_length] at hs
      obtain rfl : (b1, b2) = E := hs
      have hO := HO.out
      have k0 := (HAA.out _ hB).c0
      have k1 := (HAA.out _ hB).c1
      have l0 := (HCC.out _ hB).c0
      have l1 := (HCC.out _ hB).c1
      have pe := fun W => pt_neq ax ay cx cy W
      rw [show (ax == cx && ay == cy) = decide ((⟨ax, ay⟩ : St.Pt) = ⟨cx, cy⟩) from pt_beq ⟨ax, ay⟩ ⟨cx, cy⟩] at pe
      simp only at hO
      by_cases hac : (⟨ax, ay⟩ : St.Pt) = ⟨cx, cy⟩
      · obtain rfl : B0 = false := by rw [hO, decide_eq_false (not_not_intro hac)]; rfl
        rw [decide_eq_true hac] at pe
        clear hO hac HE HO HL
        go_wp2_with fail
        go_quiet (fail)
        go_wp2
        go_ret
        exact ⟨rfl, ⟨hB.os, hB.tape, hB.output, hB.size, hB.block⟩⟩
      · rw [decide_eq_false hac] at pe
        rw [decide_eq_true (show (⟨ax, ay⟩ : St.Pt) ≠ ⟨cx, cy⟩ from hac)] at hO
        obtain rfl : B0 = !(b1 && b2) := by rw [hO]; rfl
        clear hO hac HE HO HL
        cases b1 <;> cases b2
        all_goals
          go_wp2_with fail
          go_quiet (fail)
          go_wp2
          go_ret
          exact ⟨rfl, ⟨hB.os, hB.tape, hB.output, hB.size, hB.block⟩⟩
end Go.Proofs.Wk
/- STRAIGHTNESS: the reference's farthest point from a line. -/
namespace Go.Proofs.Wk
open Go.RowKit Mt

/-- Two boxed points, and one in a row. -/
structure FaR (w W : World) (b o : Nat) (a c p : St.Pt) : Prop where
  x : Bx2 w W a c
  p : PtAt W b o p
theorem FaR.later {w W W' : World} {b o : Nat} {a c p : St.Pt} (h : FaR w W b o a c p) (hb : Below W.heap.size W W') : FaR w W' b o a c p := ⟨h.x.later hb, h.p.later hb⟩
theorem FaR.drew {w W : World} {b o : Nat} {a c p : St.Pt} (h : FaR w W b o a c p) : FaR w W.drew b o a c p := ⟨h.x.drew, h.p.drew⟩
theorem FaR.t {w W : World} {b o : Nat} {ax ay cx cy px py : Int} (h : FaR w W b o ⟨ax, ay⟩ ⟨cx, cy⟩ ⟨px, py⟩) :
    W.cell? ⟨w.heap.size, 0, none⟩ = some (.int .i64 ax) ∧ W.cell? ⟨w.heap.size, 1, none⟩ = some (.int .i64 ay) ∧ W.cell? ⟨w.heap.size + 1, 0, none⟩ = some (.int .i64 cx) ∧ W.cell? ⟨w.heap.size + 1, 1, none⟩ = some (.int .i64 cy) ∧
    W.cell? ⟨b, o, none⟩ = some (.int .i64 px) ∧ W.cell? ⟨b, o + 1, none⟩ = some (.int .i64 py) ∧ FaR w W b o ⟨ax, ay⟩ ⟨cx, cy⟩ ⟨px, py⟩ :=
  ⟨h.x.a.c0, h.x.a.c1, h.x.b.c0, h.x.b.c1, h.p.c0, h.p.c1, h⟩
theorem rf_drop {ls : List St.Pt} {k : Nat} (hk : k < ls.length) (a b : St.Pt) (q : Rat) (f : Nat) :
    St.rfF a b (ls.drop k) k (q, f) = St.rfF a b (ls.drop (k + 1)) (k + 1) (if q < St.wq (St.left a b (St.at_ ls k)) a b then (St.wq (St.left a b (St.at_ ls k)) a b, k) else (q, f)) := by
  rw [List.drop_eq_getElem_cons hk, St.rfF, St.at_get hk]
theorem left_sz {a c p : St.Pt} (ha : St.InP a) (hc : St.InP c) (hp : St.InP p) (hne : a ≠ c) : szQ (St.wq (St.left a c p) a c) 24 :=
  wq_szQ (by have := (St.left_bd ha hc hp).2.2; omega) (by have := (St.far_bd ha hc).2.2; omega) hne
set_option maxRecDepth 100000 in
set_option maxHeartbeats 4000000 in
theorem rFarthest_c {v : Value} (ls : List St.Pt) (a c : St.Pt) (w : World) (S : SlX w v ls) (hin : ∀ p ∈ ls, St.InP p) (h0 : 0 < ls.length) (hpa : St.InP a) (hpc : St.InP c) (hne : a ≠ c) (hn : ls.length ≤ 64) :
    Calls Tryz.prog 118 #[v, ptV a, ptV c] w (Ret w (.tuple #[.string ⟨(rtoa (St.rfF a c ls 0 (0, 0)).1).toArray⟩, .int .i64 ((St.rfF a c ls 0 (0, 0)).2 : Int)])) := by
  refine S.cases _ ?_ ?_
  · rintro a cap rfl rfl
    simp at h0
  rintro b off cap rfl hp hR hb
  have hE : St.rfF a c (ls.drop 0) 0 (0, 0) = St.rfF a c ls 0 (0, 0) := rfl
  have hx := Bx2.mk' w a c 37
  generalize St.rfF a c ls 0 (0, 0) = E at *
  have HL := Lib.hid (fun (p : St.Pt) (hp : St.InP p) (W : World) => rFromLine_c p a c W hp hpa hpc hne)
  have HZ := Lib.hid (fun (p : St.Pt) (hp : St.InP p) => left_sz hpa hpc hp hne)
  have HR := Lib.hid hR
  have HIN := Lib.hid (fun (k : Nat) (hk : k < ls.length) => St.at_in hin hk)
  have HE := Lib.hid hE
  have z0 : szQ 0 24 := szQ_zero.mono (by decide)
  clear hpa hpc hR hE hin hne
  obtain ⟨ax, ay⟩ := a
  obtain ⟨cx, cy⟩ := c
  simp only at hx
  go_enter Tryz.func118, Tryz.ntmps118
  go_wp2_with fail
  generalize ((w.alloc (.cells #[.int .i64 ax, .int .i64 ay] 37)).alloc (.cells #[.int .i64 cx, .int .i64 cy] 37)) = W at *
  have HX := Lib.hid hx
  clear hx
  go_loopw [8, 9, 10] (fun sq sf sk wr => ∃ (k : Nat) (q : Rat) (f : Nat), sq = .string ⟨(rtoa q).toArray⟩ ∧ sf = .int .i64 (f : Int) ∧ sk = .int .i64 (k : Int) ∧ k ≤ ls.length ∧ Hid (St.rfF ⟨ax, ay⟩ ⟨cx, cy⟩ (ls.drop k) k (q, f) = E) ∧ szQ q 24 ∧ Hid (Bx2 w wr ⟨ax, ay⟩ ⟨cx, cy⟩))
    (fun _ _ sk _ => ls.length - (intOf sk).toNat)
  case atStart => exact ⟨0, 0, 0, by rw [rtoa_zero], rfl, rfl, Nat.zero_le _, HE.out, z0, HX.out⟩
  case round =>
    obtain ⟨k, q, f, rfl, rfl, rfl, hk, hs, hq, hB⟩ := hrel
    by_cases hlt : k < ls.length
    · have hst := hs.out
      rw [rf_drop hlt] at hst
      have hip := HIN.out k hlt
      have hr0 : FaR w wr b (off + k * 2) ⟨ax, ay⟩ ⟨cx, cy⟩ (St.at_ ls k) := ⟨hB.out, (HR.out.later hB.out.w hb).ptAt hlt⟩
      have hl := fun W => HL.out _ hip W
      have hz := HZ.out _ hip
      generalize St.at_ ls k = p at *
      generalize St.wq (St.left ⟨ax, ay⟩ ⟨cx, cy⟩ p) ⟨ax, ay⟩ ⟨cx, cy⟩ = q2 at *
      have hO := fun W => Order_q q2 q W (hz.mono (by decide)) (hq.mono (by decide))
      have hcg := cmpQ_gt q2 q
      generalize cmpQ q2 q = o at *
      obtain ⟨px, py⟩ := p
      have HN := Lib.hid hl
      have HO := Lib.hid hO
      have HST := Lib.hid hst
      have HR0 := Lib.hid hr0
      have HZ2 := Lib.hid hz
      have HQ := Lib.hid hq
      have HCG := Lib.hid hcg
      have hi64 : (ls.length : Int) ≤ 64 := by omega
      generalize hT2 : rtoa q2 = T2 at *
      have HT2 := Lib.hid hT2
      generalize hT : rtoa q = T at *
      have HT := Lib.hid hT
      clear hl hr0 hst hs hip hO hz hq hcg hT hT2 hB
      go_wp2_with fail
      go_region_held3 (fun w' => w'.cell? ⟨w.heap.size, 0, none⟩ = some (.int .i64 ax) ∧ w'.cell? ⟨w.heap.size, 1, none⟩ = some (.int .i64 ay) ∧ w'.cell? ⟨w.heap.size + 1, 0, none⟩ = some (.int .i64 cx) ∧ w'.cell? ⟨w.heap.size + 1, 1, none⟩ = some (.int .i64 cy) ∧
          w'.cell? ⟨b, off + k * 2, none⟩ = some (.int .i64 px) ∧ w'.cell? ⟨b, off + k * 2 + 1, none⟩ = some (.int .i64 py) ∧ FaR w w' b (off + k * 2) ⟨ax, ay⟩ ⟨cx, cy⟩ ⟨px, py⟩)
        (first | exact JJ.t | exact HR0.out.t | exact HR0.out.drew.t)
        (first
          | (go_at_call 119; (with_reducible refine (HN.out _).mono ?_); rintro e w1 ⟨rfl, hb1⟩; (first | have JJ := HR0.out.drew.later hb1 | have JJ := HR0.out.later hb1))
          | fail)
      all_goals
        have HJ := Lib.hid JJ
        clear JJ
        go_wp2_with fail
        ((with_reducible refine (HO.out _).mono ?_); rintro e w2 ⟨rfl, hb2⟩)
        have HJ2 := Lib.hid (HJ.out.later hb2)
        have hcg := HCG.out
        have hst := HST.out
        rcases Int.lt_or_le 0 o with ho | ho
        · rw [decide_eq_true ho] at hcg
          rw [if_pos (of_decide_eq_true hcg.symm)] at hst
          have HE2 := Lib.hid hst
          clear hst hcg HST HCG
          go_wp2
          go_roundw
          case rel => exact ⟨k + 1, q2, k, by rw [HT2.out], rfl, by go_num, by omega, HE2.out, HZ2.out, HJ2.out.x⟩
          case measure => simp [intOf]; omega
        · rw [decide_eq_false (by omega)] at hcg
          rw [if_neg (of_decide_eq_false hcg.symm)] at hst
          have HE2 := Lib.hid hst
          clear hst hcg HST HCG
          go_wp2
          go_roundw
          case rel => exact ⟨k + 1, q, f, by rw [HT.out], rfl, by go_num, by omega, HE2.out, HQ.out, HJ2.out.x⟩
          case measure => simp [intOf]; omega
    · obtain rfl : k = ls.length := by omega
      have hs := hs.out
      rw [List.drop_length] at hs
      obtain rfl : (q, f) = E := hs
      have hw := hB.out.w
      clear hB HE HX
      go_wp2
      go_ret2
      exact ⟨rfl, hw⟩
end Go.Proofs.Wk
