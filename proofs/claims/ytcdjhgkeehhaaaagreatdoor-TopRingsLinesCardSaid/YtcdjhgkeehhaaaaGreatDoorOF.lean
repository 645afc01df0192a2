/- SQUARENESS: the reference's zones along, beside and square to a direction. -/
import Derived.Test.YtcdjhgkeehhaaaaGreatDoorOE
import Derived.Test.YtcdjhgkeehhaaaaGreatDoorNF
import Derived.Test.YtcdjhgkeehhaaaaGreatDoorOA
import Derived.Deep.RegionHeld3
namespace Go.Proofs.Wk
open Go.RowKit Mt

abbrev intZ : Value := .int .i64 0
structure LnM (W0 W : World) (gd : Nat) (d : St.Pt) (b o : Nat) (p : St.Pt) : Prop where
  d : PtAt W gd 0 d
  p : PtAt W b o p
  w : Below W0.heap.size W0 W
theorem LnM.drew {W0 W : World} {gd b o : Nat} {d p : St.Pt} (h : LnM W0 W gd d b o p) : LnM W0 W.drew gd d b o p := ⟨h.d.drew, h.p.drew, h.w.drew⟩
theorem LnM.later {W0 W W' : World} {gd b o : Nat} {d p : St.Pt} (h : LnM W0 W gd d b o p) (hb : Below W.heap.size W W') : LnM W0 W' gd d b o p := ⟨h.d.later hb, h.p.later hb, h.w.nx hb⟩
theorem LnM.t {W0 W : World} {gd b o : Nat} {dx dy px py : Int} (h : LnM W0 W gd ⟨dx, dy⟩ b o ⟨px, py⟩) : W.cell? ⟨gd, 0, none⟩ = some (.int .i64 dx) ∧ W.cell? ⟨gd, 1, none⟩ = some (.int .i64 dy) ∧
    W.cell? ⟨b, o, none⟩ = some (.int .i64 px) ∧ W.cell? ⟨b, o + 1, none⟩ = some (.int .i64 py) ∧ LnM W0 W gd ⟨dx, dy⟩ b o ⟨px, py⟩ := ⟨h.d.c0, h.d.c1, h.p.c0, h.p.c1, h⟩
structure LnS (W0 W : World) (gd : Nat) (d : Or.P3) (b o : Nat) (p : Or.P3) : Prop where
  d : SpAt W gd 0 d
  p : SpAt W b o p
  w : Below W0.heap.size W0 W
theorem LnS.drew {W0 W : World} {gd b o : Nat} {d p : Or.P3} (h : LnS W0 W gd d b o p) : LnS W0 W.drew gd d b o p := ⟨h.d.drew, h.p.drew, h.w.drew⟩
theorem LnS.later {W0 W W' : World} {gd b o : Nat} {d p : Or.P3} (h : LnS W0 W gd d b o p) (hb : Below W.heap.size W W') : LnS W0 W' gd d b o p := ⟨h.d.later hb, h.p.later hb, h.w.nx hb⟩
theorem LnS.t {W0 W : World} {gd b o : Nat} {dx dy dz px py pz : Int} (h : LnS W0 W gd ⟨dx, dy, dz⟩ b o ⟨px, py, pz⟩) : W.cell? ⟨gd, 0, none⟩ = some (.int .i64 dx) ∧ W.cell? ⟨gd, 1, none⟩ = some (.int .i64 dy) ∧ W.cell? ⟨gd, 2, none⟩ = some (.int .i64 dz) ∧
    W.cell? ⟨b, o, none⟩ = some (.int .i64 px) ∧ W.cell? ⟨b, o + 1, none⟩ = some (.int .i64 py) ∧ W.cell? ⟨b, o + 2, none⟩ = some (.int .i64 pz) ∧ LnS W0 W gd ⟨dx, dy, dz⟩ b o ⟨px, py, pz⟩ := ⟨h.d.c0, h.d.c1, h.d.c2, h.p.c0, h.p.c1, h.p.c2, h⟩
theorem inP_k {p : St.Pt} (h : St.InP p) : (-((100000 : Nat) : Int) ≤ p.x ∧ p.x ≤ ((100000 : Nat) : Int)) ∧ -((100000 : Nat) : Int) ≤ p.y ∧ p.y ≤ ((100000 : Nat) : Int) := by
  obtain ⟨a, b, c, d⟩ := h
  omega
theorem crs_in {a b : St.Pt} (ha : St.InP a) (hb : St.InP b) : -100000000000 ≤ St.crs a b ∧ St.crs a b ≤ 100000000000 := by
  have ha := inP_k ha
  have hb := inP_k hb
  have h1 := St.mul_bd ha.1 hb.2
  have h2 := St.mul_bd ha.2 hb.1
  unfold St.crs; omega
theorem dot_in {a b : St.Pt} (ha : St.InP a) (hb : St.InP b) : -40000000000 ≤ St.dot a b ∧ St.dot a b ≤ 40000000000 := by
  have ha := inP_k ha
  have hb := inP_k hb
  have h1 := St.mul_bd ha.1 hb.1
  have h2 := St.mul_bd ha.2 hb.2
  unfold St.dot; omega
end Go.Proofs.Wk
/- SQUARENESS: zones in the plane, in the program. -/
namespace Go.Proofs.Wk
open Go.RowKit Mt

/-- What a function of zones returns. -/
def resZ (E : Int) (e : Or.Ed) (D : Int) : Value := if E = 0 then .tuple #[.string ⟨(rtoa (Rat.divInt ((e.high - e.low) * (e.high - e.low)) D)).toArray⟩, .agg #[.int .i64 (e.a0 : Int), .int .i64 (e.a1 : Int)], .int .i64 0]
  else .tuple #[.string ⟨#[]⟩, .agg #[.int .i64 0, .int .i64 0], .int .i64 E]
abbrev alongV (ls : List St.Pt) (d : St.Pt) : Value := resZ (flatE ls d) (Or.ends (ls.map (St.crs d))) (St.dot d d)
abbrev besideV (ls : List St.Pt) (d : St.Pt) : Value := resZ (flatE ls d) (Or.ends (ls.map (St.dot d))) (St.dot d d)
abbrev parallelV (ls : List Or.P3) (d : Or.P3) : Value := resZ (highE ls d) (Or.ends (ls.map (Or.dot d))) (Or.dot d d)
theorem dot_flat (d : St.Pt) : Or.dot ⟨d.x, d.y, 0⟩ ⟨d.x, d.y, 0⟩ = St.dot d d := by unfold Or.dot St.dot; simp
/-- What the closure of a zone reads. -/
structure ArM (W : World) (gz gd gs : Nat) (fv sv : Value) (d : St.Pt) (b o : Nat) (p : St.Pt) : Prop where
  z : W.heap[gz]? = some (.cells #[fv] 49 (0, 0))
  s : W.heap[gs]? = some (.cells #[sv] 22 (0, 0))
  d : PtAt W gd 0 d
  p : PtAt W b o p
theorem ArM.drew {W : World} {gz gd gs b o : Nat} {fv sv : Value} {d p : St.Pt} (h : ArM W gz gd gs fv sv d b o p) : ArM W.drew gz gd gs fv sv d b o p := ⟨h.z, h.s, h.d.drew, h.p.drew⟩
theorem ArM.later {W W' : World} {gz gd gs b o : Nat} {fv sv : Value} {d p : St.Pt} (h : ArM W gz gd gs fv sv d b o p) (hb : Below W.heap.size W W') : ArM W' gz gd gs fv sv d b o p := ⟨keepD h.z hb, keepD h.s hb, h.d.later hb, h.p.later hb⟩
theorem ArM.t {W : World} {gz gd gs b o : Nat} {fv sv : Value} {dx dy px py : Int} (h : ArM W gz gd gs fv sv ⟨dx, dy⟩ b o ⟨px, py⟩) : W.cell? ⟨gz, 0, none⟩ = some fv ∧ W.cell? ⟨gs, 0, none⟩ = some sv ∧
    W.cell? ⟨gd, 0, none⟩ = some (.int .i64 dx) ∧ W.cell? ⟨gd, 1, none⟩ = some (.int .i64 dy) ∧ W.cell? ⟨b, o, none⟩ = some (.int .i64 px) ∧ W.cell? ⟨b, o + 1, none⟩ = some (.int .i64 py) ∧ ArM W gz gd gs fv sv ⟨dx, dy⟩ b o ⟨px, py⟩ :=
  ⟨c1row h.z, c1row h.s, h.d.c0, h.d.c1, h.p.c0, h.p.c1, h⟩
/-- The boxes of a zone's arguments. -/
structure ZnM (w W : World) (fv sv : Value) (d : St.Pt) : Prop where
  z : W.heap[w.heap.size]? = some (.cells #[fv] 49 (0, 0))
  s : W.heap[w.heap.size + 1]? = some (.cells #[sv] 22 (0, 0))
  d : W.heap[w.heap.size + 1 + 1]? = some (.cells #[.int .i64 d.x, .int .i64 d.y] 24 (0, 0))
  r : W.heap[w.heap.size + 1 + 1 + 1]? = some (.cells #[.int .i64 0, .int .i64 0] 28 (0, 0))
  w : Below w.heap.size w W
theorem ZnM.later {w W W' : World} {fv sv : Value} {d : St.Pt} (h : ZnM w W fv sv d) (hb : Below W.heap.size W W') : ZnM w W' fv sv d := ⟨keepD h.z hb, keepD h.s hb, keepD h.d hb, keepD h.r hb, h.w.nx hb⟩
theorem al4 (w : World) (o1 o2 o3 o4 : Obj) : ((((w.alloc o1).alloc o2).alloc o3).alloc o4).heap[w.heap.size]? = some o1 ∧ ((((w.alloc o1).alloc o2).alloc o3).alloc o4).heap[w.heap.size + 1]? = some o2 ∧
    ((((w.alloc o1).alloc o2).alloc o3).alloc o4).heap[w.heap.size + 1 + 1]? = some o3 ∧ ((((w.alloc o1).alloc o2).alloc o3).alloc o4).heap[w.heap.size + 1 + 1 + 1]? = some o4 ∧ Below w.heap.size w ((((w.alloc o1).alloc o2).alloc o3).alloc o4) := by
  have h4 := heap_alloc_new (((w.alloc o1).alloc o2).alloc o3) o4
  rw [World.size_alloc, World.size_alloc, World.size_alloc] at h4
  exact ⟨keepD (keepD (keepD (heap_alloc_new w o1) (below_al _ _)) (below_al _ _)) (below_al _ _), keepD (keepD (new2 w o1 o2) (below_al _ _)) (below_al _ _), keepD (new3 w o1 o2 o3) (below_al _ _), h4, (bx3 w o1 o2 o3).nx (below_al _ _)⟩
theorem znM_new (w : World) (fv sv : Value) (d : St.Pt) : ZnM w ((((w.alloc (.cells #[fv] 49)).alloc (.cells #[sv] 22)).alloc (.cells #[.int .i64 d.x, .int .i64 d.y] 24)).alloc (.cells #[.int .i64 0, .int .i64 0] 28)) fv sv d := by
  obtain ⟨h1, h2, h3, h4, h5⟩ := al4 w (.cells #[fv] 49) (.cells #[sv] 22) (.cells #[.int .i64 d.x, .int .i64 d.y] 24) (.cells #[.int .i64 0, .int .i64 0] 28)
  exact ⟨h1, h2, h3, h4, h5⟩
set_option maxRecDepth 100000 in
set_option maxHeartbeats 2000000 in
theorem aroundA_f (gz gd gs b off n i : Nat) (cap : Nat) (d p : St.Pt) (W : World) (hi : i < n) (hd : St.InP d) (hp : St.InP p) (hM : ArM W gz gd gs (.func (.func 15) #[] #[]) (.slice (some ⟨b, off, none⟩) n cap) d b (off + i * 2) p) :
    Calls Tryz.prog 31 #[.int .i64 (i : Int), .pointer (some ⟨gz, 0, none⟩), .pointer (some ⟨gd, 0, none⟩), .pointer (some ⟨gs, 0, none⟩)] W (Ret W (.int .i64 (St.crs d p))) := by
  have HF := Lib.hid (fun W => along_f d p 100000 W (inP_k hd) (inP_k hp) (by decide))
  generalize St.crs d p = R at *
  obtain ⟨dx, dy⟩ := d
  obtain ⟨px, py⟩ := p
  have i0 : (0 : Int) ≤ (i : Int) := by omega
  have i1 : (i : Int) < (n : Int) := by omega
  have HM := Lib.hid hM
  obtain ⟨m0, m1, m2, m3, m4, m5, -⟩ := hM.t
  have HB := Lib.hid (Below.refl W.heap.size W)
  clear hd hp hM
  go_enter Tryz.func31, Tryz.ntmps31
  go_wp2_with fail
  go_region_held3 (fun w' => w'.cell? ⟨gz, 0, none⟩ = some (.func (.func 15) #[] #[]) ∧ w'.cell? ⟨gs, 0, none⟩ = some (.slice (some ⟨b, off, none⟩) n cap) ∧
      w'.cell? ⟨gd, 0, none⟩ = some (.int .i64 dx) ∧ w'.cell? ⟨gd, 1, none⟩ = some (.int .i64 dy) ∧ w'.cell? ⟨b, off + i * 2, none⟩ = some (.int .i64 px) ∧ w'.cell? ⟨b, off + i * 2 + 1, none⟩ = some (.int .i64 py) ∧ ArM w' gz gd gs (.func (.func 15) #[] #[]) (.slice (some ⟨b, off, none⟩) n cap) ⟨dx, dy⟩ b (off + i * 2) ⟨px, py⟩)
    (first | exact JJ.t | exact HM.out.t | exact HM.out.drew.t)
    (first
      | (go_at_call 15; (with_reducible refine (HF.out _).mono ?_); rintro e w4 ⟨rfl, hb4⟩; (first | (have JJ := HM.out.drew.later hb4; have BB := HB.out.drew.nx hb4) | (have JJ := HM.out.later hb4; have BB := HB.out.nx hb4)))
      | fail)
  all_goals
    go_wp2
    go_ret
    exact ⟨rfl, BB⟩
set_option maxRecDepth 100000 in
set_option maxHeartbeats 4000000 in
theorem aroundA_c {v : Value} (ls : List St.Pt) (d : St.Pt) (w : World) (hg : Good w) (S : SlX w v ls) (hln : ls.length ≤ 140737488355328) :
    Calls Tryz.prog 16 #[.agg #[.func (.func 15) #[] #[]], v, ptV d] w (Ret w (alongV ls d)) := by
  have HFL := Lib.hid (fun W (h : Below w.heap.size w W) => oflat_c ls d W (S.later h) hln)
  have hz := znM_new w (.func (.func 15) #[] #[]) v d
  have HS := Lib.hid (fun W (h : Below w.heap.size w W) => S.later h)
  by_cases h0 : flatE ls d = 0
  · obtain ⟨l0, l64, hin, hd, hne⟩ := flatE_ok h0
    rw [h0] at HFL
    unfold alongV resZ
    rw [if_pos h0]
    refine S.cases _ ?_ ?_
    · rintro a cap rfl rfl
      simp at l0
    rintro b off cap rfl hp hR hb
    have HRR := Lib.hid (fun (W : World) (h : Below w.heap.size w W) (k : Nat) (hk : k < ls.length) => (hR.later h hb).ptAt hk)
    have HEN := Lib.hid (fun W (hM : ZnM w W (.func (.func 15) #[] #[]) (.slice (some ⟨b, off, none⟩) ls.length cap) d) => ends_z (ls.map (St.crs d)) ls.length (.pointer (some ⟨w.heap.size, 0, none⟩)) (.pointer (some ⟨w.heap.size + 1 + 1, 0, none⟩)) (.pointer (some ⟨w.heap.size + 1, 0, none⟩)) W (by rw [List.length_map]) l0 (by omega) (fun i hi W' hb' => by
      have hM' := hM.later hb'
      have := aroundA_f w.heap.size (w.heap.size + 1 + 1) (w.heap.size + 1) b off ls.length i cap d (St.at_ ls i) W' hi hd (hin _ (St.at_mem hi)) ⟨hM'.z, hM'.s, ⟨(c2row hM'.d).1, (c2row hM'.d).2⟩, HRR.out _ hM'.w i hi⟩
      rwa [show (ls.map (St.crs d)).getD i 0 = St.crs d (St.at_ ls i) by rw [St.at_get hi, List.getD_eq_getElem?_getD, List.getElem?_map, List.getElem?_eq_getElem hi]; rfl]))
    obtain ⟨e1, -, e3, e4⟩ := Or.ends_spec (l := ls.map (St.crs d)) (by intro q; have := congrArg List.length q; rw [List.length_map] at this; simp at this; rw [this] at l0; simp at l0)
    have hl : ∀ n ∈ ls.map (St.crs d), -100000000000 ≤ n ∧ n ≤ 100000000000 := fun n hn => by
      obtain ⟨p, hp, rfl⟩ := List.mem_map.1 hn
      have := crs_in hd (hin p hp)
      omega
    have b3 := hl _ (List.mem_of_getElem? e3)
    have b4 := hl _ (List.mem_of_getElem? e4)
    generalize Or.ends (ls.map (St.crs d)) = E at *
    obtain ⟨low, high, a0, a1⟩ := E
    simp only at b3 b4 e1 ⊢
    have HSQ := Lib.hid (fun W (h : Below w.heap.size w W) => by
      have := osquared_c (high - low) ⟨d.x, d.y, 0⟩ W (hg.later h) (by omega) (Bd.mono (k := 100000) (by have := inP_k hd; exact ⟨this.1, this.2, by simp only; omega⟩) (by decide)) (fun q => hne (by
        obtain ⟨dx, dy⟩ := d
        simp only [Or.P3.mk.injEq, and_true] at q
        rw [q.1, q.2]))
      rwa [show sqd (high - low) ⟨d.x, d.y, 0⟩ = Rat.divInt ((high - low) * (high - low)) (St.dot d d) by unfold sqd; rw [dot_flat]] at this)
    have hw : IntKind.i64.wrap (high - low) = high - low := Go.Proofs.Wk.wr rfl (by omega)
    generalize rtoa (Rat.divInt ((high - low) * (high - low)) (St.dot d d)) = R at *
    obtain ⟨dx, dy⟩ := d
    simp only at hz HSQ
    have HZ := Lib.hid hz
    clear hz hR hb hp e1 e3 e4 b3 b4 hl hin hd hne S hg h0 HRR HS
    go_enter Tryz.func16, Tryz.ntmps16
    go_wp2_with fail
    generalize (((w.alloc (.cells #[.func (.func 15) #[] #[]] 49)).alloc (.cells #[.slice (some ⟨b, off, none⟩) ls.length cap] 22)).alloc (.cells #[.int .i64 dx, .int .i64 dy] 24)).alloc (.cells #[.int .i64 0, .int .i64 0] 28) = W0 at *
    have k1 := c1row HZ.out.s
    obtain ⟨k2, k3⟩ := c2row HZ.out.d
    go_wp2_with fail
    ((with_reducible refine (HFL.out _ HZ.out.w).mono ?_); rintro e w1 ⟨rfl, hb1⟩)
    have HZ1 := Lib.hid (HZ.out.later hb1)
    clear k1 k2 k3 hb1 HZ HFL
    have k1 := c1row HZ1.out.s
    go_wp2_with fail
    ((with_reducible refine (HEN.out _ HZ1.out).mono ?_); rintro e w2 ⟨rfl, hb2⟩)
    have hA2 := below_al w2 (.cells #[.int .i64 (a0 : Int), .int .i64 (a1 : Int)] 28)
    have HZ2 := Lib.hid ((HZ1.out.later hb2).later hA2)
    have HN2 := Lib.hid (heap_alloc_new w2 (.cells #[.int .i64 (a0 : Int), .int .i64 (a1 : Int)] 28))
    have HG2 := Lib.hid (show w.heap.size + 1 + 1 + 1 < w2.heap.size from (Array.getElem?_eq_some_iff.1 (HZ1.out.later hb2).r).1)
    clear k1 hb2 HZ1 HEN hA2
    obtain ⟨k2, k3⟩ := c2row HZ2.out.d
    go_wp2_with fail
    generalize w2.alloc (.cells #[.int .i64 (a0 : Int), .int .i64 (a1 : Int)] 28) = w3 at *
    generalize w2.heap.size = g at *
    ((with_reducible refine (HSQ.out _ HZ2.out.w).mono ?_); rintro e w4 ⟨rfl, hb4⟩)
    have HZ4 := Lib.hid (HZ2.out.later hb4)
    have HN4 := Lib.hid (keepD HN2.out hb4)
    clear k2 k3 hb4 HZ2 HN2 HSQ
    obtain ⟨m0, m1⟩ := c2row HN4.out
    obtain ⟨z0, z1⟩ := c2row HZ4.out.r
    have hf := fun k => free_row HZ4.out.r k
    have q1 : ¬ g = w.heap.size + 1 + 1 + 1 := by have := HG2.out; omega
    have q2 : ¬ w.heap.size + 1 + 1 + 1 = g := by have := HG2.out; omega
    go_wp2_with fail
    go_region
    all_goals
      go_wp2
      refine bodyPost_ret (res_tct rfl (by kernel_rfl) (s2rowd HZ4.out.r) Tryz.underlying28 rfl (by kernel_rfl) rfl rfl) rfl ?_
      exact ⟨rfl, (b2row HZ4.out.w (by omega)).drew⟩
  · unfold alongV resZ
    rw [if_neg h0]
    generalize flatE ls d = E at *
    have z : (E != 0) = true := bne_iff_ne.2 h0
    obtain ⟨sa, cap, rfl⟩ := S.len
    obtain ⟨dx, dy⟩ := d
    simp only at hz
    have HZ := Lib.hid hz
    clear hz S hg h0 HS
    go_enter Tryz.func16, Tryz.ntmps16
    go_wp2_with fail
    generalize (((w.alloc (.cells #[.func (.func 15) #[] #[]] 49)).alloc (.cells #[.slice sa ls.length cap] 22)).alloc (.cells #[.int .i64 dx, .int .i64 dy] 24)).alloc (.cells #[.int .i64 0, .int .i64 0] 28) = W0 at *
    have k1 := c1row HZ.out.s
    obtain ⟨k2, k3⟩ := c2row HZ.out.d
    go_wp2_with fail
    ((with_reducible refine (HFL.out _ HZ.out.w).mono ?_); rintro e w1 ⟨rfl, hb1⟩)
    have HZ1 := Lib.hid (HZ.out.later hb1)
    clear k1 k2 k3 hb1 HZ HFL
    obtain ⟨z0, z1⟩ := c2row HZ1.out.r
    have hf := fun k => free_row HZ1.out.r k
    go_wp2
    refine bodyPost_ret (res_tct rfl (by kernel_rfl) (s2row HZ1.out.r) Tryz.underlying28 rfl (by kernel_rfl) rfl rfl) rfl ?_
    exact ⟨rfl, b2row HZ1.out.w (by omega)⟩
end Go.Proofs.Wk
/- SQUARENESS: Along, Beside, Parallel. -/
namespace Go.Proofs.Wk
open Go.RowKit Mt

theorem resZ_form (E : Int) (e : Or.Ed) (D : Int) : ∃ (A : Txt) (i j : Nat), resZ E e D = .tuple #[.string ⟨A.toArray⟩, .agg #[.int .i64 (i : Int), .int .i64 (j : Int)], .int .i64 E] := by
  unfold resZ
  by_cases h : E = 0
  · rw [if_pos h, h]; exact ⟨_, _, _, rfl⟩
  · rw [if_neg h]; exact ⟨[], 0, 0, rfl⟩
/-- A direction's box and a result's cell. -/
structure DrM (w W : World) (cs : Array Value) (t : TypeId) : Prop where
  d : W.heap[w.heap.size]? = some (.cells cs t (0, 0))
  r : W.heap[w.heap.size + 1]? = some (.cells #[.int .i64 0, .int .i64 0] 28 (0, 0))
  w : Below w.heap.size w W
theorem DrM.later {w W W' : World} {cs : Array Value} {t : TypeId} (h : DrM w W cs t) (hb : Below W.heap.size W W') : DrM w W' cs t := ⟨keepD h.d hb, keepD h.r hb, h.w.nx hb⟩
theorem drM_new (w : World) (cs : Array Value) (t : TypeId) : DrM w ((w.alloc (.cells cs t)).alloc (.cells #[.int .i64 0, .int .i64 0] 28)) cs t :=
  ⟨keepD (heap_alloc_new w _) (below_al _ _), new2 w _ _, bx2 w _ _⟩
set_option maxRecDepth 100000 in
set_option maxHeartbeats 2000000 in
theorem Along_c {v : Value} (ls : List St.Pt) (d : St.Pt) (w : World) (hg : Good w) (S : SlX w v ls) (hln : ls.length ≤ 140737488355328) : Calls Tryz.prog 7 #[v, ptV d] w (Ret w (alongV ls d)) := by
  have HAR := Lib.hid (fun W (h : Below w.heap.size w W) => aroundA_c ls d W (hg.later h) (S.later h) hln)
  have hz := drM_new w #[.int .i64 d.x, .int .i64 d.y] 24
  unfold alongV at HAR ⊢
  obtain ⟨A, i, j, hA⟩ := resZ_form (flatE ls d) (Or.ends (ls.map (St.crs d))) (St.dot d d)
  rw [hA] at HAR ⊢
  generalize flatE ls d = E at *
  obtain ⟨dx, dy⟩ := d
  simp only at hz
  have HZ := Lib.hid hz
  clear hA hz S hg
  go_enter Tryz.func7, Tryz.ntmps7
  go_wp2_with fail
  generalize (w.alloc (.cells #[.int .i64 dx, .int .i64 dy] 24)).alloc (.cells #[.int .i64 0, .int .i64 0] 28) = W0 at *
  obtain ⟨k0, k1⟩ := c2row HZ.out.d
  go_wp2_with fail
  ((with_reducible refine (HAR.out _ HZ.out.w).mono ?_); rintro e w1 ⟨rfl, hb1⟩)
  have HZ1 := Lib.hid (HZ.out.later hb1)
  obtain ⟨z0, z1⟩ := c2row HZ1.out.r
  have hf := fun k => free_row HZ1.out.r k
  clear k0 k1 hb1 HZ HAR
  go_wp2
  refine bodyPost_ret (res_tct rfl (by kernel_rfl) (s2row HZ1.out.r) Tryz.underlying28 rfl (by kernel_rfl) rfl rfl) rfl ?_
  exact ⟨rfl, b2row HZ1.out.w (by omega)⟩
end Go.Proofs.Wk
/- SQUARENESS: the parallel zone, in the program. -/
namespace Go.Proofs.Wk
open Go.RowKit Mt

end Go.Proofs.Wk
