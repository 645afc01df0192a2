/- POSITION: the statement Moves. -/
import Derived.Test.YtdpjkfkmlaphhaaGreatDoorPT
import Derived.Test.YtdpjkfkmlaphhaaGreatDoorPV
import Derived.Laws.EntriesVeiled
namespace Go.Proofs.Wk
open Go.RowKit Mt Po

theorem OwX.cel {α : Type} [Row α] {e : TypeId} {w : World} {base : Nat} {v : Value} {ls : List α} (h : OwX e w base v ls) {p : Addr} (hp : p.block < base) (u : Value) : OwX e (w.setCell p u) base v ls := by
  obtain ⟨h1, h2⟩ := h
  refine ⟨h1, ?_⟩
  rcases h2 with h2 | ⟨g, cap, cur, e1, e2, e3, e4⟩
  · exact .inl h2
  · exact .inr ⟨g, cap, cur, e1, e2, (heap_setCell_other _ _ _ _ (show g ≠ p.block by omega)).trans e3, e4⟩
theorem Tri.below {w W W' : World} {g1 g2 g3 : Nat} {o1 o2 o3 : Obj} (h : Tri w W g1 g2 g3 o1 o2 o3) {B : Nat} (hb : Below B W W') (l1 : g1 < B) (l2 : g2 < B) (l3 : g3 < B) (l : w.heap.size ≤ B) : Tri w W' g1 g2 g3 o1 o2 o3 :=
  ⟨(hb.block _ l1).trans h.a, (hb.block _ l2).trans h.b, (hb.block _ l3).trans h.c, h.w.trans (hb.mono l)⟩
theorem new_sp (W : World) (q : Sp) (t : TypeId) : ∀ j, j < Row.k Sp → (W.alloc (.cells #[.int .i64 q.x, .int .i64 q.y, .int .i64 q.z] t)).cell? ⟨W.heap.size, j, none⟩ = (Row.enc q)[j]? := fun j hj => by
  rw [cell_of_row _ _ _ _ _ _ (heap_alloc_new W _)]
  have h3 : j < 3 := hj
  obtain rfl | rfl | rfl : j = 0 ∨ j = 1 ∨ j = 2 := by omega
  · rfl
  · rfl
  · rfl
theorem take_snocP {ls : List Sp} {i : Nat} (hi : i < ls.length) (F : Sp → Sp) : (ls.take (i + 1)).map F = (ls.take i).map F ++ [F (Po.at_ ls i)] := by
  rw [List.take_succ_eq_append_getElem hi, List.map_append, ← Po.at_get hi]; rfl
theorem SlS.frm {w : World} {v : Value} {ls : List Txt} (S : SlS w v ls) : ∃ a cap, v = .slice a ls.length cap := by
  rcases S with ⟨a, c, rfl, rfl⟩ | ⟨b, off, c, rfl, -, -⟩
  · exact ⟨a, c, rfl⟩
  · exact ⟨_, c, rfl⟩
theorem tq_inj {p q : TQ} (h : tqT p = tqT q) : p = q := by
  obtain ⟨p0, p1, p2, p3, p4, p5⟩ := p
  obtain ⟨q0, q1, q2, q3, q4, q5⟩ := q
  simp only [tqT, TT.mk.injEq] at h
  obtain ⟨h0, h1, h2, h3, h4, h5⟩ := h
  rw [rtoa_inj h0, rtoa_inj h1, rtoa_inj h2, rtoa_inj h3, rtoa_inj h4, rtoa_inj h5]
theorem RtP.at {c : Ca} {ds : List Dt} {ls : List Sp} {t : TQ} (h : RtP c ds ls [tqT t]) (hl : ∀ l ∈ (tqT t).l, l.length ≤ 140737488355328) : RtC c t ds ls := by
  obtain ⟨u, e, R⟩ := h.rt (List.mem_singleton.2 rfl) hl
  rwa [← tq_inj e] at R
theorem addT_len {t : TQ} {b : Sp} (ht : ShT t) (hb : InP b) : ∀ l ∈ (tqT (addT t b)).l, l.length ≤ 140737488355328 := by
  have hs := ShT.shift hb
  intro l hl
  simp only [TT.l, tqT, addT, List.mem_cons, List.not_mem_nil, or_false] at hl
  rcases hl with rfl | rfl | rfl | rfl | rfl | rfl
  · exact tlen ((szV_add ht.t0 hs.t0 (Nat.le_refl 0) (Nat.le_refl 0)).okq (by omega))
  · exact tlen ((szV_add ht.t1 hs.t1 (Nat.le_refl 0) (Nat.le_refl 0)).okq (by omega))
  · exact tlen ((szV_add ht.t2 hs.t2 (Nat.le_refl 0) (Nat.le_refl 0)).okq (by omega))
  · exact tlen (ht.w0.okq (by omega))
  · exact tlen (ht.w1.okq (by omega))
  · exact tlen (ht.w2.okq (by omega))
theorem wpList_load_rowG {P : Program} {ops : Array Oper} {rest : List Oper} {o : Oper} {a : Act} {w : World} {Q : Exit → Act → World → Prop} (hgd : Region.wanted o (yielded ops a.tmps) = true) (ty : TypeId) (x : Operand) (ho : o.op = .load ty x)
    (g : Nat) (hx : a.eval x = .pointer (some ⟨g, 0, none⟩)) (t : TypeId) (cs : Array Value) (fr : Nat × Nat) (d : TypeDesc) (hg : w.heap[g]? = some (.cells cs t fr))
    (hu : P.underlying ty = some d) (hd : (match d with | .struct _ | .array _ _ => true | _ => false) = true) (hi : (P.info? ty).map (·.size) = some cs.size)
    (h : wpList P ops Q rest (a.put o.dst (.agg cs)) w) : wpList P ops Q (o :: rest) a w := by
  unfold wpList
  rw [if_pos hgd]
  exact Or.inl (wp_load_row ty x ho g hx t cs fr d hg hu hd hi h)
abbrev spZ : Value := .agg #[.int .i64 0, .int .i64 0, .int .i64 0]

set_option maxRecDepth 100000 in
set_option maxHeartbeats 8000000 in
theorem moves_z (c : Ca) (fv dv sv : Value) (tt : TT) (bp : Sp) (ds : List Dt) (ls : List Sp) (w : World) (hg : Good w) (S : CaS w c fv dv sv ds ls) (hl : ∀ l ∈ tt.l, l.length ≤ 140737488355328) (HZ : ∀ W, Calls Tryz.prog 11 #[] W (Ret W (ttV zTT'))) :
    Calls Tryz.prog 3 #[caV c fv dv sv, ttV tt, spV bp] w (Ret w (.bool true)) := by
  have HR := Lib.hid (right_one c fv dv sv tt ds ls w S hl)
  have HS := Lib.hid (fun W => rRightS_p bp W)
  have HA := Lib.hid (fun W (h : Below w.heap.size w W) => awake_z W (hg.later h) HZ)
  have HPT := Lib.hid (fun (h : RtP c ds ls [tt]) => h.rt (List.mem_singleton.2 rfl) hl)
  have HIN := Lib.hid (fun (h : inP bp = true) => inP_iff.1 h)
  have HZH := Lib.hid HZ
  have HSS := Lib.hid S
  have HGG := Lib.hid hg
  have hJ := Tri.new w (caC c fv dv sv) (ttC tt) #[.int .i64 bp.x, .int .i64 bp.y, .int .i64 bp.z] 34 38 23
  obtain ⟨PR, hPR⟩ : ∃ P : Prop, RtP c ds ls [tt] = P := ⟨_, rfl⟩
  rw [hPR] at HR HPT
  obtain ⟨IB, hIB⟩ : ∃ b : Bool, inP bp = b := ⟨_, rfl⟩
  rw [hIB] at HS HIN
  clear hPR hIB
  obtain ⟨fa, fn, fc, da, dn, dc, xa, xn, xc, rfl, rfl, rfl⟩ := S.forms
  obtain ⟨⟨nm, kind, axis, ⟨ax, ay, az⟩, lo, fhi⟩, ⟨xk, disc, tol, mat⟩, b0⟩ := c
  obtain ⟨bx, ey, bz⟩ := bp
  simp only at hJ HR HS
  clear S hg HZ hl
  go_enter Tryz.func3, Tryz.ntmps3
  go_upto_region 1 with fail
  generalize hW0 : ((w.alloc (.cells #[.string ⟨nm.toArray⟩, .int .i64 kind, .int .i64 axis, .int .i64 ax, .int .i64 ay, .int .i64 az, .int .i64 lo, .int .i64 fhi, (.slice fa fn fc), .int .i64 xk, .bool disc, .int .i64 tol, .int .i64 mat, (.slice da dn dc), (.slice xa xn xc), .int .i64 b0] 34)).alloc (.cells (ttC tt) 38)).alloc (.cells #[.int .i64 bx, .int .i64 ey, .int .i64 bz] 23) = W0 at *
  clear hW0
  generalize w.heap.size + 1 + 1 = gy at *
  generalize w.heap.size + 1 = gt at *
  obtain ⟨c0, c1, c2, c3, c4, c5, c6, c7, c8, c9, ca, cb, cc, cd, ce, cf⟩ := c16row hJ.a
  obtain ⟨t0, t1, t2, t3, t4, t5⟩ := c6row hJ.b
  have hal := below_al W0 (.cells (ttC tt) 38)
  have hT := SlX.one W0 tt
  go_wp2_with fail
  ((with_reducible refine (HR.out _ _ (hJ.w.nx hal) hT).mono ?_); rintro e w1 ⟨b, rfl, hr, hb1⟩)
  have hJ1 := hJ.later (hal.nx hb1)
  have hw1 := hJ1.w
  have HRR := Lib.hid hr
  clear c0 c1 c2 c3 c4 c5 c6 c7 c8 c9 ca cb cc cd ce cf t0 t1 t2 t3 t4 t5 hb1 hJ HR hal hT hr
  cases b with
  | false =>
    clear hJ1 HRR HS
    go_wp2_with fail
    ((with_reducible refine (HA.out _ hw1).mono ?_); rintro e wz ⟨rfl, hbz⟩)
    have hwz := (hw1).nx hbz
    go_wp2
    go_ret
    exact ⟨rfl, hwz⟩
  | true =>
    obtain ⟨y0, y1, y2⟩ := c3row hJ1.c
    go_wp2_with fail
    ((with_reducible refine (HS.out _).mono ?_); rintro e w2 ⟨rfl, hb2⟩)
    have hJ2 := hJ1.later hb2
    have hw2 := hJ2.w
    clear y0 y1 y2 hb2 hJ1 hw1 HS
    cases IB with
    | false =>
      clear hJ2 HRR
      go_wp2_with fail
      ((with_reducible refine (HA.out _ hw2).mono ?_); rintro e wz ⟨rfl, hbz⟩)
      have hwz := (hw2).nx hbz
      go_wp2
      go_ret
      exact ⟨rfl, hwz⟩
    | true =>
      obtain ⟨t, rfl, R⟩ := HPT.out (HRR.out (by first | rfl | trivial))
      obtain ⟨⟨bx0, bx1⟩, ⟨by0, by1⟩, ⟨bz0, bz1⟩⟩ := HIN.out (by first | rfl | trivial)
      have HRT := Lib.hid R
      have HJ2 := Lib.hid hJ2
      have HIB : Hid (InP ⟨bx, ey, bz⟩) := Lib.hid ⟨⟨bx0, bx1⟩, ⟨by0, by1⟩, ⟨bz0, bz1⟩⟩
      have HIA : Hid (InP ⟨ax, ay, az⟩) := Lib.hid R.ok.1.p
      have HAD : Hid (∀ W, Below w.heap.size w W → Calls Tryz.prog 13 #[ttV (tqT t), ttV ⟨rtoa (bx : Rat), rtoa (ey : Rat), rtoa (bz : Rat), [48], [48], [48]⟩] W (Ret W (.tuple #[ttV (tqT (addT t ⟨bx, ey, bz⟩)), .int .i64 0]))) := Lib.hid (fun W h => add_moves t ⟨bx, ey, bz⟩ W (HGG.out.later h) R.ht HIB.out)
      obtain ⟨uu, huu⟩ : ∃ u, tqT (addT t ⟨bx, ey, bz⟩) = u := ⟨_, rfl⟩
      rw [huu] at HAD
      have HUU := Lib.hid huu
      obtain ⟨tt, htt⟩ : ∃ u, tqT t = u := ⟨_, rfl⟩
      have HTT := Lib.hid htt
      rw [htt] at HAD HJ2
      rw [htt]
      clear HPT HRR HIN R hJ2 hw2 bx0 bx1 by0 by1 bz0 bz1 huu htt
      go_upto_region 4 with fail
      go_cut [7, 8, 9] from 25 (fun s7 s8 s9 wx => s7 = .func (.func 10) #[] #[.pointer (some ⟨gy, 0, none⟩)] ∧ ∃ g8 g9 : Nat, s8 = .pointer (some ⟨g8, 0, none⟩) ∧ s9 = .pointer (some ⟨g9, 0, none⟩) ∧ w2.heap.size ≤ g8 ∧ w2.heap.size ≤ g9 ∧ g8 ≠ g9 ∧ Hid (wx.heap[g8]? = some (.cells #[.string ⟨nm.toArray⟩, .int .i64 kind, .int .i64 axis, .int .i64 ax, .int .i64 ay, .int .i64 az, .int .i64 lo, .int .i64 fhi, (.slice fa fn fc), .int .i64 xk, .bool disc, .int .i64 tol, .int .i64 mat, (.slice da dn dc), (.slice xa xn xc), .int .i64 b0] 34 (0, 0))) ∧ Hid (wx.heap[g9]? = some (.cells (ttC tt) 38 (0, 0))) ∧ Hid (Below w2.heap.size w2 wx))
      case first =>
        have r1 := HJ2.out.a
        have r2 := HJ2.out.b
        have hs1 : (Tryz.prog.info? 34).map (·.size) = some (#[.string ⟨nm.toArray⟩, .int .i64 kind, .int .i64 axis, .int .i64 ax, .int .i64 ay, .int .i64 az, .int .i64 lo, .int .i64 fhi, (.slice fa fn fc), .int .i64 xk, .bool disc, .int .i64 tol, .int .i64 mat, (.slice da dn dc), (.slice xa xn xc), .int .i64 b0] : Array Value).size := by kernel_rfl
        have hs2 : (Tryz.prog.info? 38).map (·.size) = some (ttC tt).size := by kernel_rfl
        refine wp_region_noPanic ?_
        refine copyM (by rfl) (fun _ _ _ _ _ h => h) w.heap.size gt (by rfl) (by rfl) #[.string ⟨nm.toArray⟩, .int .i64 kind, .int .i64 axis, .int .i64 ax, .int .i64 ay, .int .i64 az, .int .i64 lo, .int .i64 fhi, (.slice fa fn fc), .int .i64 xk, .bool disc, .int .i64 tol, .int .i64 mat, (.slice da dn dc), (.slice xa xn xc), .int .i64 b0] (ttC tt) zcC ztC r1 r2 (fun W h => run_loadVar_row W _ _ _ _ _ _ h Tryz.underlying34 rfl hs1) (fun W h => run_loadVar_row W _ _ _ _ _ _ h Tryz.underlying38 rfl hs2) hs1 hs2 (by rfl) (by rfl) (by kernel_rfl) (by kernel_rfl)
          (fun o ho {ρ} W => al_case o ho W) (fun o ho {ρ} W => al_tor o ho W) (fun g5 g6 W k5 k6 k56 K5 K6 KB => NoPanic.normal ?_)
        simp only [Act.put, List.setIfInBounds_toArray, List.set_cons_zero, List.set_cons_succ]
        go_wp2
        go_meet
        exact ⟨rfl, g5, g6, rfl, rfl, k5, k6, k56, Lib.hid K5, Lib.hid K6, Lib.hid KB⟩
      case rest =>
      obtain ⟨rfl, g8, g9, rfl, rfl, h8, h9, h89, H8, H9, HB⟩ := hcut
      generalize wc = w3 at *
      have HJ3 := Lib.hid (HJ2.out.later HB.out)
      have l1 := HJ2.out.lt1
      have l2 := HJ2.out.lt2
      have l3 := HJ2.out.lt3
      have HNE := Lib.hid (show w.heap.size ≠ g8 ∧ w.heap.size ≠ g9 ∧ gt ≠ g8 ∧ gt ≠ g9 ∧ gy ≠ g8 ∧ gy ≠ g9 ∧ g8 ≠ g9 ∧ w.heap.size ≤ g8 ∧ w.heap.size ≤ g9 from ⟨by omega, by omega, by omega, by omega, by omega, by omega, h89, by omega, by omega⟩)
      have HMV := Lib.hid (fun (p : Sp) (hp : InP p) (W : World) (h : W.heap[gy]? = some (.cells #[.int .i64 bx, .int .i64 ey, .int .i64 bz] 23 (0, 0))) => moves1_c p ⟨bx, ey, bz⟩ gy W hp HIB.out h)
      have HMA : Hid (∀ W : World, W.heap[gy]? = some (.cells #[.int .i64 bx, .int .i64 ey, .int .i64 bz] 23 (0, 0)) → Calls Tryz.prog 10 #[.agg #[.int .i64 ax, .int .i64 ay, .int .i64 az], .pointer (some ⟨gy, 0, none⟩)] W (Ret W (.agg #[.int .i64 (ax + bx), .int .i64 (ay + ey), .int .i64 (az + bz)]))) := Lib.hid (fun W h => HMV.out ⟨ax, ay, az⟩ HIA.out W h)
      clear l1 l2 l3 h8 h9 h89 HB HJ2
      obtain ⟨c0, c1, c2, c3, c4, c5, c6, c7, c8, c9, ca, cb, cc, cd, ce, cf⟩ := c16row HJ3.out.a
      clear c0 c1 c2 c6 c7 c8 c9 ca cb cc cd ce cf
      go_wp2_with fail
      ((with_reducible refine (HMA.out _ HJ3.out.c).mono ?_); rintro e w4 ⟨rfl, hb4⟩)
      have HJ4 := Lib.hid (HJ3.out.later hb4)
      have H8b := Lib.hid (keepD H8.out hb4)
      have H9b := Lib.hid (keepD H9.out hb4)
      clear c3 c4 c5 hb4 H8 H9 HJ3
      obtain ⟨c0, c1, c2, c3, c4, c5, c6, c7, c8, c9, ca, cb, cc, cd, ce, cf⟩ := c16row H8b.out
      have hf := fun j => free_row H8b.out j
      clear c0 c1 c2 c6 c7 c8 c9 ca cb cc cd ce cf
      go_upto_region 6 with fail
      clear c3 c4 c5 hf
      generalize hW5 : ((w4.setCell ⟨g8, 3, none⟩ (.int .i64 (ax + bx))).setCell ⟨g8, 4, none⟩ (.int .i64 (ay + ey))).setCell ⟨g8, 5, none⟩ (.int .i64 (az + bz)) = W5
      obtain ⟨N1, N2, N3, N4, N5, N6, N7, N8, N9⟩ := HNE.out
      have H8c : Hid (W5.heap[g8]? = some (.cells #[.string ⟨nm.toArray⟩, .int .i64 kind, .int .i64 axis, .int .i64 (ax + bx), .int .i64 (ay + ey), .int .i64 (az + bz), .int .i64 lo, .int .i64 fhi, (.slice fa fn fc), .int .i64 xk, .bool disc, .int .i64 tol, .int .i64 mat, (.slice da dn dc), (.slice xa xn xc), .int .i64 b0] 34 (0, 0))) := Lib.hid (by rw [← hW5]; exact heap_setCell_same _ g8 5 _ _ _ (heap_setCell_same _ g8 4 _ _ _ (heap_setCell_same w4 g8 3 _ _ _ H8b.out)))
      have H9c : Hid (W5.heap[g9]? = some (.cells (ttC tt) 38 (0, 0))) := Lib.hid (by rw [← hW5]; exact (heap_setCell_other _ ⟨g8, 5, none⟩ g9 _ (Ne.symm N7)).trans ((heap_setCell_other _ ⟨g8, 4, none⟩ g9 _ (Ne.symm N7)).trans ((heap_setCell_other _ ⟨g8, 3, none⟩ g9 _ (Ne.symm N7)).trans H9b.out)))
      have HJ5 : Hid (Tri w W5 w.heap.size gt gy (.cells #[.string ⟨nm.toArray⟩, .int .i64 kind, .int .i64 axis, .int .i64 ax, .int .i64 ay, .int .i64 az, .int .i64 lo, .int .i64 fhi, (.slice fa fn fc), .int .i64 xk, .bool disc, .int .i64 tol, .int .i64 mat, (.slice da dn dc), (.slice xa xn xc), .int .i64 b0] 34 (0, 0)) (.cells (ttC tt) 38 (0, 0)) (.cells #[.int .i64 bx, .int .i64 ey, .int .i64 bz] 23 (0, 0))) := Lib.hid (by rw [← hW5]; exact ((HJ4.out.set (p := ⟨g8, 3, none⟩) _ N1 N3 N5 N8).set (p := ⟨g8, 4, none⟩) _ N1 N3 N5 N8).set (p := ⟨g8, 5, none⟩) _ N1 N3 N5 N8)
      clear hW5 H8b H9b HJ4
      obtain ⟨t0, t1, t2, t3, t4, t5⟩ := c6row H9c.out
      have hf := fun j => free_row H9c.out j
      clear t0 t1 t2 N1 N2 N3 N4 N5 N6 N7 N8 N9
      go_upto_region 7 with fail
      clear t3 t4 t5 hf
      generalize hW6 : ((W5.setCell ⟨g9, 3, none⟩ (.string ⟨#[48]⟩)).setCell ⟨g9, 4, none⟩ (.string ⟨#[48]⟩)).setCell ⟨g9, 5, none⟩ (.string ⟨#[48]⟩) = W6
      obtain ⟨N1, N2, N3, N4, N5, N6, N7, N8, N9⟩ := HNE.out
      have H9d : Hid (W6.heap[g9]? = some (.cells (ttC ⟨tt.a0, tt.a1, tt.a2, [48], [48], [48]⟩) 38 (0, 0))) := Lib.hid (by rw [← hW6]; exact heap_setCell_same _ g9 5 _ _ _ (heap_setCell_same _ g9 4 _ _ _ (heap_setCell_same W5 g9 3 _ _ _ H9c.out)))
      have H8d : Hid (W6.heap[g8]? = some (.cells #[.string ⟨nm.toArray⟩, .int .i64 kind, .int .i64 axis, .int .i64 (ax + bx), .int .i64 (ay + ey), .int .i64 (az + bz), .int .i64 lo, .int .i64 fhi, (.slice fa fn fc), .int .i64 xk, .bool disc, .int .i64 tol, .int .i64 mat, (.slice da dn dc), (.slice xa xn xc), .int .i64 b0] 34 (0, 0))) := Lib.hid (by rw [← hW6]; exact (heap_setCell_other _ ⟨g9, 5, none⟩ g8 _ N7).trans ((heap_setCell_other _ ⟨g9, 4, none⟩ g8 _ N7).trans ((heap_setCell_other _ ⟨g9, 3, none⟩ g8 _ N7).trans H8c.out)))
      have HJ6 : Hid (Tri w W6 w.heap.size gt gy (.cells #[.string ⟨nm.toArray⟩, .int .i64 kind, .int .i64 axis, .int .i64 ax, .int .i64 ay, .int .i64 az, .int .i64 lo, .int .i64 fhi, (.slice fa fn fc), .int .i64 xk, .bool disc, .int .i64 tol, .int .i64 mat, (.slice da dn dc), (.slice xa xn xc), .int .i64 b0] 34 (0, 0)) (.cells (ttC tt) 38 (0, 0)) (.cells #[.int .i64 bx, .int .i64 ey, .int .i64 bz] 23 (0, 0))) := Lib.hid (by rw [← hW6]; exact ((HJ5.out.set (p := ⟨g9, 3, none⟩) _ N2 N4 N6 N9).set (p := ⟨g9, 4, none⟩) _ N2 N4 N6 N9).set (p := ⟨g9, 5, none⟩) _ N2 N4 N6 N9)
      clear hW6 H8c H9c HJ5 N1 N2 N3 N4 N5 N6 N7 N8 N9
      go_wp2_with fail
      ((with_reducible refine (HZH.out _).mono ?_); rintro e w7 ⟨rfl, hb7⟩)
      have hal := below_al w7 (.cells #[.string ⟨#[48]⟩, .string ⟨#[48]⟩, .string ⟨#[48]⟩, .string ⟨#[48]⟩, .string ⟨#[48]⟩, .string ⟨#[48]⟩] 38)
      have hn := heap_alloc_new w7 (.cells #[.string ⟨#[48]⟩, .string ⟨#[48]⟩, .string ⟨#[48]⟩, .string ⟨#[48]⟩, .string ⟨#[48]⟩, .string ⟨#[48]⟩] 38)
      have HJ7 := Lib.hid (HJ6.out.later hb7)
      have H8e := Lib.hid (keepD H8d.out hb7)
      have H9e := Lib.hid (keepD H9d.out hb7)
      clear hb7 HJ6 H8d H9d HZH
      go_upto_region 8 with fail
      generalize w7.alloc (.cells #[.string ⟨#[48]⟩, .string ⟨#[48]⟩, .string ⟨#[48]⟩, .string ⟨#[48]⟩, .string ⟨#[48]⟩, .string ⟨#[48]⟩] 38) = W8 at *
      obtain ⟨⟨bx0, bx1⟩, ⟨by0, by1⟩, ⟨bz0, bz1⟩⟩ := HIB.out
      simp only at bx0 bx1 by0 by1 bz0 bz1
      have HWX := Lib.hid (fun W => rwholeR bx W (by omega))
      have HWY := Lib.hid (fun W => rwholeR ey W (by omega))
      have HWZ := Lib.hid (fun W => rwholeR bz W (by omega))
      obtain ⟨qx, hqx⟩ : ∃ q, rtoa (bx : Rat) = q := ⟨_, rfl⟩
      obtain ⟨qy, hqy⟩ : ∃ q, rtoa (ey : Rat) = q := ⟨_, rfl⟩
      obtain ⟨qz, hqz⟩ : ∃ q, rtoa (bz : Rat) = q := ⟨_, rfl⟩
      rw [hqx] at HWX
      rw [hqy] at HWY
      rw [hqz] at HWZ
      have HQ := Lib.hid (show rtoa (bx : Rat) = qx ∧ rtoa (ey : Rat) = qy ∧ rtoa (bz : Rat) = qz from ⟨hqx, hqy, hqz⟩)
      have HALL := Lib.hid (fun (W : World) (h : Below w7.heap.size w7 W) => by
        obtain ⟨y0, y1, y2⟩ := c3row (HJ7.out.later h).c
        exact (⟨y0, y1, y2, h⟩ : W.cell? ⟨gy, 0, none⟩ = some (.int .i64 bx) ∧ W.cell? ⟨gy, 1, none⟩ = some (.int .i64 ey) ∧ W.cell? ⟨gy, 2, none⟩ = some (.int .i64 bz) ∧ Below w7.heap.size w7 W))
      have hB := hal
      have hgle : w7.heap.size ≤ w7.heap.size := Nat.le_refl _
      have hnd : W8.drew.heap[w7.heap.size]? = some (.cells #[.string ⟨#[48]⟩, .string ⟨#[48]⟩, .string ⟨#[48]⟩, .string ⟨#[48]⟩, .string ⟨#[48]⟩, .string ⟨#[48]⟩] 38 (0, 0)) := hn
      clear bx0 bx1 by0 by1 bz0 bz1 hqx hqy hqz hal
      go_region_held3 (fun W => W.cell? ⟨gy, 0, none⟩ = some (.int .i64 bx) ∧ W.cell? ⟨gy, 1, none⟩ = some (.int .i64 ey) ∧ W.cell? ⟨gy, 2, none⟩ = some (.int .i64 bz) ∧ Below w7.heap.size w7 W)
        (first | with_reducible exact HALL.out _ (((B3.cel (p := ⟨w7.heap.size, 0, none⟩) hgle _).cel (p := ⟨w7.heap.size, 1, none⟩) hgle _).cel (p := ⟨w7.heap.size, 2, none⟩) hgle _) | with_reducible exact HALL.out _ B3 | with_reducible exact HALL.out _ B2 | with_reducible exact HALL.out _ B1 | with_reducible exact HALL.out _ hB | with_reducible exact HALL.out _ hB.drew)
        (first
          | (go_at_call 12; (with_reducible refine (HWX.out _).mono ?_); rintro e v1 ⟨rfl, hb1⟩; (first | (with_reducible have B1 := hB.drew.nx hb1; have R1 := keepD hnd hb1) | (with_reducible have B1 := hB.nx hb1; have R1 := keepD hn hb1)))
          | (go_at_call 12; (with_reducible refine (HWY.out _).mono ?_); rintro e v2 ⟨rfl, hb2⟩; have B2 := B1.nx hb2; have R2 := keepD R1 hb2)
          | (go_at_call 12; (with_reducible refine (HWZ.out _).mono ?_); rintro e v3 ⟨rfl, hb3⟩; have B3 := B2.nx hb3; have R3 := keepD R2 hb3; obtain ⟨f0, f1, f2, f3, f4, f5⟩ := c6row R3; have hff := fun j => free_row R3 j)
          | fail)
      go_upto_region 9 with fail
      generalize hW9 : ((v3.setCell ⟨w7.heap.size, 0, none⟩ (.string ⟨qx.toArray⟩)).setCell ⟨w7.heap.size, 1, none⟩ (.string ⟨qy.toArray⟩)).setCell ⟨w7.heap.size, 2, none⟩ (.string ⟨qz.toArray⟩) = W9
      have HB9 : Hid (Below w7.heap.size w7 W9) := Lib.hid (by rw [← hW9]; exact ((B3.cel (p := ⟨w7.heap.size, 0, none⟩) hgle _).cel (p := ⟨w7.heap.size, 1, none⟩) hgle _).cel (p := ⟨w7.heap.size, 2, none⟩) hgle _)
      have H10 : Hid (W9.heap[w7.heap.size]? = some (.cells (ttC ⟨qx, qy, qz, [48], [48], [48]⟩) 38 (0, 0))) := Lib.hid (by rw [← hW9]; exact heap_setCell_same _ _ 2 _ _ _ (heap_setCell_same _ _ 1 _ _ _ (heap_setCell_same v3 _ 0 _ _ _ R3)))
      have HJ9 := Lib.hid (HJ7.out.later HB9.out)
      have H8f := Lib.hid (keepD H8e.out HB9.out)
      have H9f := Lib.hid (keepD H9e.out HB9.out)
      obtain ⟨eqx, eqy, eqz⟩ := HQ.out
      rw [eqx, eqy, eqz] at HAD
      clear hW9 B1 B2 B3 R1 R2 R3 hb1 hb2 hb3 f0 f1 f2 f3 f4 f5 hff HALL HJ7 H8e H9e HB9 hB hn hnd hgle eqx eqy eqz HQ HWX HWY HWZ
      generalize w7.heap.size = g10 at *
      obtain ⟨t0, t1, t2, t3, t4, t5⟩ := c6row HJ9.out.b
      obtain ⟨s0, s1, s2, s3, s4, s5⟩ := c6row H10.out
      go_wp2_with fail
      ((with_reducible refine (HAD.out _ HJ9.out.w).mono ?_); rintro e w10 ⟨rfl, hb10⟩)
      have hal := below_al w10 (.cells (ttC uu) 38)
      have hnew := heap_alloc_new w10 (.cells (ttC uu) 38)
      have HJ10 := Lib.hid (HJ9.out.later (hb10.nx hal))
      have H8g := Lib.hid (keepD H8f.out (hb10.nx hal))
      have H9g := Lib.hid (keepD H9f.out (hb10.nx hal))
      clear t0 t1 t2 t3 t4 t5 s0 s1 s2 s3 s4 s5 HJ9 H10 H8f H9f hb10 hal HAD
      go_upto_region 10 with fail
      generalize w10.alloc (.cells (ttC uu) 38) = W10 at *
      generalize w10.heap.size = g11 at *
      have H11 := Lib.hid hnew
      clear hnew
      obtain ⟨CS1, hCS1⟩ : ∃ X : Array Value, #[.string ⟨nm.toArray⟩, .int .i64 kind, .int .i64 axis, .int .i64 (ax + bx), .int .i64 (ay + ey), .int .i64 (az + bz), .int .i64 lo, .int .i64 fhi, (.slice fa fn fc), .int .i64 xk, .bool disc, .int .i64 tol, .int .i64 mat, (.slice da dn dc), (.slice xa xn xc), .int .i64 b0] = X := ⟨_, rfl⟩
      have HSA : Hid ((Tryz.prog.info? 34).map (·.size) = some CS1.size) := Lib.hid (by subst hCS1; kernel_rfl)
      have HO : Hid (CS1.all (·.oneCell') = true) := Lib.hid (by subst hCS1; kernel_rfl)
      have HZ0 : Hid (zcC.size = CS1.size) := Lib.hid (by subst hCS1; rfl)
      have HR8 : Hid (W10.heap[g8]? = some (.cells CS1 34 (0, 0))) := Lib.hid (by subst hCS1; exact H8g.out)
      have HCS1 := Lib.hid hCS1
      clear hCS1
      go_upto_region 11 with (first | (with_reducible refine wpList_load_row rfl 34 _ rfl g8 (by kernel_rfl) _ CS1 _ _ HR8.out Tryz.underlying34 rfl HSA.out ?_) | ((with_reducible refine wpList_store_row rfl 34 _ _ rfl W10.heap.size CS1 (by kernel_rfl) (by kernel_rfl) 34 zcC (heap_alloc_new W10 _) HSA.out HZ0.out HO.out ?_); rw [World.setRow_alloc_new]))
      have hal := below_al W10 (.cells CS1 34)
      have hx : (W10.alloc (.cells CS1 34)).heap[W10.heap.size]? = some (.cells #[.string ⟨nm.toArray⟩, .int .i64 kind, .int .i64 axis, .int .i64 (ax + bx), .int .i64 (ay + ey), .int .i64 (az + bz), .int .i64 lo, .int .i64 fhi, (.slice fa fn fc), .int .i64 xk, .bool disc, .int .i64 tol, .int .i64 mat, (.slice da dn dc), (.slice xa xn xc), .int .i64 b0] 34 (0, 0)) := by rw [HCS1.out]; exact heap_alloc_new W10 _
      have HL := Lib.hid (show w.heap.size < W10.heap.size ∧ gt < W10.heap.size ∧ gy < W10.heap.size ∧ g8 < W10.heap.size ∧ g9 < W10.heap.size ∧ g11 < W10.heap.size ∧ w.heap.size ≤ W10.heap.size from ⟨HJ10.out.lt1, HJ10.out.lt2, HJ10.out.lt3, (Array.getElem?_eq_some_iff.1 H8g.out).1, (Array.getElem?_eq_some_iff.1 H9g.out).1, (Array.getElem?_eq_some_iff.1 H11.out).1, HJ10.out.w.size⟩)
      have HJ11 := Lib.hid (HJ10.out.later hal)
      have H8h := Lib.hid (keepD H8g.out hal)
      have H9h := Lib.hid (keepD H9g.out hal)
      have H11b := Lib.hid (keepD H11.out hal)
      clear hal HR8 HO HZ0 HJ10 H8g H9g H11
      generalize W10.alloc (.cells CS1 34) = W11 at *
      generalize W10.heap.size = g13 at *
      have ce := (c16row hx).2.2.2.2.2.2.2.2.2.2.2.2.2.2.1
      have hf := free_row hx 14
      have H13 := Lib.hid hx
      clear hx
      go_upto_region 12 with fail
      clear ce hf
      generalize hW13 : W11.setCell ⟨g13, 14, none⟩ (.slice none 0 0) = W13
      obtain ⟨L1, L2, L3, L4, L5, L6, L7⟩ := HL.out
      have H13b : Hid (W13.heap[g13]? = some (.cells #[.string ⟨nm.toArray⟩, .int .i64 kind, .int .i64 axis, .int .i64 (ax + bx), .int .i64 (ay + ey), .int .i64 (az + bz), .int .i64 lo, .int .i64 fhi, (.slice fa fn fc), .int .i64 xk, .bool disc, .int .i64 tol, .int .i64 mat, (.slice da dn dc), (.slice none 0 0), .int .i64 b0] 34 (0, 0))) := Lib.hid (by rw [← hW13]; exact heap_setCell_same W11 g13 14 _ _ (.slice none 0 0) H13.out)
      have HJ13 : Hid (Tri w W13 w.heap.size gt gy (.cells #[.string ⟨nm.toArray⟩, .int .i64 kind, .int .i64 axis, .int .i64 ax, .int .i64 ay, .int .i64 az, .int .i64 lo, .int .i64 fhi, (.slice fa fn fc), .int .i64 xk, .bool disc, .int .i64 tol, .int .i64 mat, (.slice da dn dc), (.slice xa xn xc), .int .i64 b0] 34 (0, 0)) (.cells (ttC tt) 38 (0, 0)) (.cells #[.int .i64 bx, .int .i64 ey, .int .i64 bz] 23 (0, 0))) := Lib.hid (by rw [← hW13]; exact HJ11.out.set (p := ⟨g13, 14, none⟩) _ (Nat.ne_of_lt L1) (Nat.ne_of_lt L2) (Nat.ne_of_lt L3) L7)
      have H8i : Hid (W13.heap[g8]? = some (.cells #[.string ⟨nm.toArray⟩, .int .i64 kind, .int .i64 axis, .int .i64 (ax + bx), .int .i64 (ay + ey), .int .i64 (az + bz), .int .i64 lo, .int .i64 fhi, (.slice fa fn fc), .int .i64 xk, .bool disc, .int .i64 tol, .int .i64 mat, (.slice da dn dc), (.slice xa xn xc), .int .i64 b0] 34 (0, 0))) := Lib.hid (by rw [← hW13]; exact (heap_setCell_other W11 ⟨g13, 14, none⟩ g8 _ (Nat.ne_of_lt L4)).trans H8h.out)
      have H9i : Hid (W13.heap[g9]? = some (.cells (ttC ⟨tt.a0, tt.a1, tt.a2, [48], [48], [48]⟩) 38 (0, 0))) := Lib.hid (by rw [← hW13]; exact (heap_setCell_other W11 ⟨g13, 14, none⟩ g9 _ (Nat.ne_of_lt L5)).trans H9h.out)
      have H11c : Hid (W13.heap[g11]? = some (.cells (ttC uu) 38 (0, 0))) := Lib.hid (by rw [← hW13]; exact (heap_setCell_other W11 ⟨g13, 14, none⟩ g11 _ (Nat.ne_of_lt L6)).trans H11b.out)
      clear hW13 H13 HJ11 H8h H9h H11b L1 L2 L3 L4 L5 L6 L7
      have hx0 : ∃ xb xo, xa = some ⟨xb, xo, none⟩ ∧ xn = ls.length ∧ RX w xb xo ls ∧ xb < w.heap.size := by
        rcases HSS.out.sp with ⟨a, cap, e, h0⟩ | ⟨b, off, cap, e, hR, hl⟩
        · have := HRT.out.hp
          rw [h0] at this
          exact absurd this (by simp)
        · injection e with e1 e2 e3
          exact ⟨b, off, e1, e2, hR, hl⟩
      obtain ⟨xb, xo, rfl, hxn, hRX, hxl⟩ := hx0
      obtain ⟨F, hF⟩ : ∃ F : Sp → Sp, (fun p => addP p ⟨bx, ey, bz⟩) = F := ⟨_, rfl⟩
      have HPT := Lib.hid (fun (i : Nat) (hi : i < xn) => by
        have hi2 : i < ls.length := by omega
        have hq := take_snocP hi2 F
        have hm := fun W h => HMV.out (Po.at_ ls i) (HRT.out.ok.2.2.1 _ (Po.at_mem hi2)) W h
        have hFp : addP (Po.at_ ls i) ⟨bx, ey, bz⟩ = F (Po.at_ ls i) := by rw [← hF]
        rw [hFp] at hm
        exact (⟨Po.at_ ls i, F (Po.at_ ls i), fun W h => (hRX.later h hxl).sp hi2, hm, hq⟩ : ∃ p q : Sp, (∀ W, Below w.heap.size w W → W.cell? ⟨xb, xo + i * 3, none⟩ = some (.int .i64 p.x) ∧ W.cell? ⟨xb, xo + i * 3 + 1, none⟩ = some (.int .i64 p.y) ∧ W.cell? ⟨xb, xo + i * 3 + 2, none⟩ = some (.int .i64 p.z)) ∧ (∀ W : World, W.heap[gy]? = some (.cells #[.int .i64 bx, .int .i64 ey, .int .i64 bz] 23 (0, 0)) → Calls Tryz.prog 10 #[spV p, .pointer (some ⟨gy, 0, none⟩)] W (Ret W (spV q))) ∧ (ls.take (i + 1)).map F = (ls.take i).map F ++ [q]))
      have HFIN := Lib.hid (show (ls.take xn).map F = ls.map fun p => addP p ⟨bx, ey, bz⟩ by rw [hxn, List.take_length, hF])
      have HLN := Lib.hid (fun (i : Nat) (hi : i < xn) => show ((ls.take i).map F).length = i by rw [List.length_map, List.length_take]; omega)
      have HX64 := Lib.hid (show xn ≤ 64 ∧ 0 < xn from ⟨by rw [hxn]; exact HRT.out.ok.2.1, by rw [hxn]; exact HRT.out.hp⟩)
      have HXN := Lib.hid hxn
      clear hF hRX hxn HMV HMA HIA
      have ce := (c16row HJ13.out.a).2.2.2.2.2.2.2.2.2.2.2.2.2.2.1
      go_upto_region 13 with fail
      clear ce
      go_loopw [71] (fun si wr => ∃ i : Nat, ∃ v : Value, si = .int .i64 (i : Int) ∧ i ≤ xn ∧ Hid (wr.heap[g13]? = some (.cells #[.string ⟨nm.toArray⟩, .int .i64 kind, .int .i64 axis, .int .i64 (ax + bx), .int .i64 (ay + ey), .int .i64 (az + bz), .int .i64 lo, .int .i64 fhi, (.slice fa fn fc), .int .i64 xk, .bool disc, .int .i64 tol, .int .i64 mat, (.slice da dn dc), v, .int .i64 b0] 34 (0, 0))) ∧ Hid (OwX 23 wr (g13 + 1) v ((ls.take i).map F)) ∧ Hid (Below g13 W13 wr)) (fun si _ => xn - (intOf si).toNat)
      case atStart => exact ⟨0, .slice none 0 0, rfl, Nat.zero_le _, H13b, OwX.nil _ _ _, Below.refl _ _⟩
      case round =>
        obtain ⟨i, v, rfl, hi, hC, hO, hB⟩ := hrel
        obtain ⟨va, vn, vc, rfl⟩ := hO.out.sl.form
        by_cases hlt : i < xn
        · obtain ⟨p, q, hP, hM, hS⟩ := HPT.out i hlt
          obtain ⟨px, py, pz⟩ := p
          obtain ⟨qx, qy, qz⟩ := q
          simp only at hP hM
          obtain ⟨L1, L2, L3, L4, L5, L6, L7⟩ := HL.out
          have hJr := HJ13.out.below hB.out L1 L2 L3 L7
          obtain ⟨k0, k1, k2⟩ := hP wr hJr.w
          have hgs : g13 < wr.heap.size := (Array.getElem?_eq_some_iff.1 hC.out).1
          have hal := below_al wr (.cells #[.int .i64 px, .int .i64 py, .int .i64 pz] 23)
          have HC1 := Lib.hid (keepD hC.out hal)
          have HO1 := Lib.hid (hO.out.later hal)
          have HB1 := Lib.hid (hB.out.trans (hal.mono (Nat.le_of_lt hgs)))
          have HY1 := Lib.hid (keepD hJr.c hal)
          have HP1 := Lib.hid (heap_alloc_new wr (.cells #[.int .i64 px, .int .i64 py, .int .i64 pz] 23))
          have HGS := Lib.hid (show g13 + 1 ≤ wr.heap.size from hgs)
          have HW1 := Lib.hid hal.size
          have HGL := Lib.hid (Nat.le_trans (Nat.le_of_lt hgs) hal.size)
          have HM := Lib.hid hM
          have HS := Lib.hid hS
          have HN64 := Lib.hid (show ((((ls.take i).map F).length + 1) * 24 ≤ 140737488355328) by have h1 := HLN.out i hlt; have h2 := HX64.out.1; rw [h1]; omega)
          have HLI := Lib.hid (HLN.out i hlt)
          have j0 : (i : Int) < (xn : Int) := by omega
          have j1 : (0 : Int) ≤ (i : Int) := by omega
          have j2 : xn ≤ 64 := HX64.out.1
          clear hP hM hS L1 L2 L3 L4 L5 L6 L7 hJr hC hO hB hal hgs
          go_upto_region 15 with fail
          clear k0 k1 k2
          generalize wr.alloc (.cells #[.int .i64 px, .int .i64 py, .int .i64 pz] 23) = W1 at *
          generalize wr.heap.size = gp at *
          obtain ⟨p0, p1, p2⟩ := c3row HP1.out
          have c14 := (c16row HC1.out).2.2.2.2.2.2.2.2.2.2.2.2.2.2.1
          have c14d : W1.drew.cell? ⟨g13, 14, none⟩ = some (.slice va vn vc) := c14
          have HYd : W1.drew.heap[gy]? = some (.cells #[.int .i64 bx, .int .i64 ey, .int .i64 bz] 23 (0, 0)) := HY1.out
          have HCd : W1.drew.heap[g13]? = some (.cells #[.string ⟨nm.toArray⟩, .int .i64 kind, .int .i64 axis, .int .i64 (ax + bx), .int .i64 (ay + ey), .int .i64 (az + bz), .int .i64 lo, .int .i64 fhi, (.slice fa fn fc), .int .i64 xk, .bool disc, .int .i64 tol, .int .i64 mat, (.slice da dn dc), (.slice va vn vc), .int .i64 b0] 34 (0, 0)) := HC1.out
          go_region_law
            (first
              | (refine step_app_row _ (by rfl) _ _ 32 23 (by rfl) Tryz.underlying32 spZ 24 (by decide) (by kernel_rfl) rfl (g13 + 1) (.slice va vn vc) ((ls.take i).map F) (by simp [Act.eval]) HO3.out v1.heap.size (⟨qx, qy, qz⟩ : Sp) (by simp [Act.eval]) (new_sp v1 ⟨qx, qy, qz⟩ 23) HN64.out HG3.out ?_; intro gg cap v3 hO4 hb3; rw [HLI.out] at hO4 ⊢; have R4 := (hb3.block g13 (Nat.lt_succ_self _)).trans R3; have c14w := (c16row R4).2.2.2.2.2.2.2.2.2.2.2.2.2.2.1; have f14w := free_row R4 14; have HO4 := Lib.hid hO4; clear hO4)
              | (go_simp; go_at_call 10; (with_reducible refine (HM.out _ HYd).mono ?_); rintro e v1 ⟨rfl, hb1⟩; have R2 := keepD HCd hb1; have c14u := (c16row R2).2.2.2.2.2.2.2.2.2.2.2.2.2.2.1; have hal := below_al v1 (.cells #[.int .i64 qx, .int .i64 qy, .int .i64 qz] 23); have R3 := keepD R2 hal; have c14v := (c16row R3).2.2.2.2.2.2.2.2.2.2.2.2.2.2.1; have HO3 := Lib.hid (((HO1.out.later (Below.refl _ W1).drew).later hb1).later hal); have HG3 := Lib.hid (Nat.le_trans HGS.out (Nat.le_trans HW1.out (Nat.le_trans hb1.size hal.size))))
              | fail)
          all_goals
            have hB3 : Below g13 W13 v3 := ((HB1.out.drew.trans (hb1.mono HGL.out)).trans (hal.mono (Nat.le_trans HGL.out hb1.size))).trans (hb3.mono (Nat.le_succ _))
            have HB3 := Lib.hid hB3
            have HR4 := Lib.hid R4
            clear hB3 R2 R3 R4 hb1 hb3 hal HO1 HO3 HG3 HC1 HCd HY1 HYd HP1 HB1 HM p0 p1 p2 c14 c14d c14u c14v
            go_upto_region 16 with fail
            clear c14w f14w
            generalize hW5 : v3.setCell ⟨g13, 14, none⟩ (.slice (some ⟨gg, 0, none⟩) (i + 1) cap) = W5
            have HC5 : Hid (W5.heap[g13]? = some (.cells #[.string ⟨nm.toArray⟩, .int .i64 kind, .int .i64 axis, .int .i64 (ax + bx), .int .i64 (ay + ey), .int .i64 (az + bz), .int .i64 lo, .int .i64 fhi, (.slice fa fn fc), .int .i64 xk, .bool disc, .int .i64 tol, .int .i64 mat, (.slice da dn dc), (.slice (some ⟨gg, 0, none⟩) (i + 1) cap), .int .i64 b0] 34 (0, 0))) := Lib.hid (by rw [← hW5]; exact heap_setCell_same v3 g13 14 _ _ _ HR4.out)
            have HO5 : Hid (OwX 23 W5 (g13 + 1) (.slice (some ⟨gg, 0, none⟩) (i + 1) cap) ((ls.take (i + 1)).map F)) := Lib.hid (by rw [← hW5, HS.out]; exact HO4.out.cel (p := ⟨g13, 14, none⟩) (Nat.lt_succ_self _) _)
            have HB5 : Hid (Below g13 W13 W5) := Lib.hid (by rw [← hW5]; exact HB3.out.cel (p := ⟨g13, 14, none⟩) (Nat.le_refl _) _)
            clear hW5 HR4 HO4 HB3
            go_wp2
            go_roundw
            case rel => exact ⟨i + 1, _, by go_num, by omega, HC5, HO5, HB5⟩
            case measure => simp [intOf]; omega
        · obtain rfl : xn = i := by omega
          have HBR := Lib.hid hB.out
          have HQS : Hid (SlX wr (.slice va vn vc) (ls.map fun p => addP p ⟨bx, ey, bz⟩)) := Lib.hid (by rw [← HFIN.out]; exact hO.out.sl)
          have hHD := HL.out
          have HJr := Lib.hid (HJ13.out.below hB.out hHD.1 hHD.2.1 hHD.2.2.1 hHD.2.2.2.2.2.2)
          have H8r := Lib.hid ((hB.out.block _ hHD.2.2.2.1).trans H8i.out)
          have H9r := Lib.hid ((hB.out.block _ hHD.2.2.2.2.1).trans H9i.out)
          have H11r := Lib.hid ((hB.out.block _ hHD.2.2.2.2.2.1).trans H11c.out)
          have HCr := hC
          clear hHD hB hO hC hlt hi HPT HFIN HLN HBR HL H8i H9i H11c HJ13 H13b
          obtain ⟨P1, hP1⟩ : ∃ P : Prop, RtP (movC ⟨⟨nm, kind, axis, ⟨ax, ay, az⟩, lo, fhi⟩, ⟨xk, disc, tol, mat⟩, b0⟩ ⟨bx, ey, bz⟩) ds ls [uu] = P := ⟨_, rfl⟩
          obtain ⟨P2, hP2⟩ : ∃ P : Prop, RtP (movC ⟨⟨nm, kind, axis, ⟨ax, ay, az⟩, lo, fhi⟩, ⟨xk, disc, tol, mat⟩, b0⟩ ⟨bx, ey, bz⟩) ds (ls.map fun p => addP p ⟨bx, ey, bz⟩) [tqT (Po.still t)] = P := ⟨_, rfl⟩
          have hqn : (ls.map fun p => addP p ⟨bx, ey, bz⟩).length ≤ 140737488355328 := by rw [List.length_map]; exact HSS.out.ln
          have hSr := HSS.out.later HJr.out.w
          have hgr := HGG.out.later HJr.out.w
          have hss : tqT (Po.still t) = ⟨tt.a0, tt.a1, tt.a2, [48], [48], [48]⟩ := by rw [tq_still, ← HTT.out]; rfl
          have huu := HUU.out
          have htt := HTT.out
          obtain ⟨CS2, hCS2⟩ : ∃ X : Array Value, #[.string ⟨nm.toArray⟩, .int .i64 kind, .int .i64 axis, .int .i64 (ax + bx), .int .i64 (ay + ey), .int .i64 (az + bz), .int .i64 lo, .int .i64 fhi, (.slice fa fn fc), .int .i64 xk, .bool disc, .int .i64 tol, .int .i64 mat, (.slice da dn dc), (.slice va vn vc), .int .i64 b0] = X := ⟨_, rfl⟩
          obtain ⟨CS0, hCS0⟩ : ∃ X : Array Value, #[.string ⟨nm.toArray⟩, .int .i64 kind, .int .i64 axis, .int .i64 ax, .int .i64 ay, .int .i64 az, .int .i64 lo, .int .i64 fhi, (.slice fa fn fc), .int .i64 xk, .bool disc, .int .i64 tol, .int .i64 mat, (.slice da dn dc), (.slice (some ⟨xb, xo, none⟩) xn xc), .int .i64 b0] = X := ⟨_, rfl⟩
          obtain ⟨CT, hCT⟩ : ∃ X : Array Value, ttC tt = X := ⟨_, rfl⟩
          obtain ⟨CU, hCU⟩ : ∃ X : Array Value, ttC uu = X := ⟨_, rfl⟩
          obtain ⟨CV, hCV⟩ : ∃ X : Array Value, ttC ⟨tt.a0, tt.a1, tt.a2, [48], [48], [48]⟩ = X := ⟨_, rfl⟩
          have hCS1 := HCS1.out
          have HRo : Hid (∀ v W, Below wr.heap.size wr W → SlX W v [uu] → Calls Tryz.prog 7 #[.agg CS1, v] W (fun e w' => ∃ b : Bool, e = .returned (.bool b) ∧ (b = true → P1) ∧ Below W.heap.size W w')) := Lib.hid (fun v W h T => by
            rw [← hCS1, ← hP1]
            exact right_c (movC ⟨⟨nm, kind, axis, ⟨ax, ay, az⟩, lo, fhi⟩, ⟨xk, disc, tol, mat⟩, b0⟩ ⟨bx, ey, bz⟩) _ _ _ ds ls [uu] W ((movC_S hSr ⟨bx, ey, bz⟩).later h) T (by simp) (fun x hx => by rw [List.mem_singleton.1 hx, ← huu]; exact addT_len HRT.out.ht HIB.out))
          have HRm : Hid (∀ v W, Below wr.heap.size wr W → SlX W v [(⟨tt.a0, tt.a1, tt.a2, [48], [48], [48]⟩ : TT)] → Calls Tryz.prog 7 #[.agg CS2, v] W (fun e w' => ∃ b : Bool, e = .returned (.bool b) ∧ (b = true → P2) ∧ Below W.heap.size W w')) := Lib.hid (fun v W h T => by
            rw [← hCS2, ← hP2]
            rw [← hss] at T
            exact right_c (movC ⟨⟨nm, kind, axis, ⟨ax, ay, az⟩, lo, fhi⟩, ⟨xk, disc, tol, mat⟩, b0⟩ ⟨bx, ey, bz⟩) _ _ _ ds (ls.map fun p => addP p ⟨bx, ey, bz⟩) [tqT (Po.still t)] W ((movC_SP hSr ⟨bx, ey, bz⟩ HQS.out hqn).later h) T (by simp) (fun x hx => by rw [List.mem_singleton.1 hx]; exact tq_len HRT.out.ht.still))
          have HDEV : Hid (P1 → P2 → ∀ i : Nat, i < xn → ∃ L M : List Txt, 0 < L.length ∧ L.length ≤ 3 ∧ M.length ≤ 3 ∧ (∀ W, Below wr.heap.size wr W → Calls Tryz.prog 14 #[.agg CS0, .agg CT, .int .i64 (i : Int)] W (OffR W L)) ∧
              (∀ W, Below wr.heap.size wr W → Calls Tryz.prog 14 #[.agg CS1, .agg CU, .int .i64 (i : Int)] W (OffR W L)) ∧ (∀ W, Below wr.heap.size wr W → Calls Tryz.prog 14 #[.agg CS0, .agg CV, .int .i64 (i : Int)] W (OffR W M)) ∧
              (∀ W, Below wr.heap.size wr W → Calls Tryz.prog 14 #[.agg CS2, .agg CV, .int .i64 (i : Int)] W (OffR W M))) := Lib.hid (fun p1 p2 i hi => by
            rw [← hP1, ← huu] at p1
            rw [← hP2] at p2
            have hi2 : i < ls.length := by rw [← HXN.out]; exact hi
            have := moves_four hgr hSr HQS.out HRT.out (p1.at (addT_len HRT.out.ht HIB.out)) (p2.at (tq_len HRT.out.ht.still)) i hi2
            rw [huu, htt, hss] at this
            rw [← hCS0, ← hCS1, ← hCS2, ← hCT, ← hCU, ← hCV]
            exact this)
          have HSA0 : Hid ((Tryz.prog.info? 34).map (·.size) = some CS0.size) := Lib.hid (by subst hCS0; kernel_rfl)
          have HSA2 : Hid ((Tryz.prog.info? 34).map (·.size) = some CS2.size) := Lib.hid (by subst hCS2; kernel_rfl)
          have HST : Hid ((Tryz.prog.info? 38).map (·.size) = some CT.size) := Lib.hid (by subst hCT; kernel_rfl)
          have HSU : Hid ((Tryz.prog.info? 38).map (·.size) = some CU.size) := Lib.hid (by subst hCU; kernel_rfl)
          have HSV : Hid ((Tryz.prog.info? 38).map (·.size) = some CV.size) := Lib.hid (by subst hCV; kernel_rfl)
          have HROWS : Hid (∀ W, Below wr.heap.size wr W → W.heap[w.heap.size]? = some (.cells CS0 34 (0, 0)) ∧ W.heap[gt]? = some (.cells CT 38 (0, 0)) ∧ W.heap[g8]? = some (.cells CS1 34 (0, 0)) ∧ W.heap[g11]? = some (.cells CU 38 (0, 0)) ∧ W.heap[g9]? = some (.cells CV 38 (0, 0)) ∧ W.heap[g13]? = some (.cells CS2 34 (0, 0))) := Lib.hid (fun W h => by
            rw [← hCS0, ← hCS1, ← hCS2, ← hCT, ← hCU, ← hCV]
            exact ⟨keepD HJr.out.a h, keepD HJr.out.b h, keepD H8r.out h, keepD H11r.out h, keepD H9r.out h, keepD HCr.out h⟩)
          have HWW := Lib.hid HJr.out.w
          have HC14 : Hid (∀ W, Below wr.heap.size wr W → W.cell? ⟨w.heap.size, 14, none⟩ = some (.slice (some ⟨xb, xo, none⟩) xn xc)) := Lib.hid (fun W h => (c16row (keepD HJr.out.a h)).2.2.2.2.2.2.2.2.2.2.2.2.2.2.1)
          clear hP1 hP2 hqn hSr hgr hss huu htt hCS2 hCS0 hCT hCU hCV hCS1 HQS HCr H8r HJr HRT HIB HSS HGG HTT HUU HXN HCS1
          -- region 17
          have RB := Lib.hid (HROWS.out wr (Below.refl _ _)).2.2.1
          obtain ⟨u0, u1, u2, u3, u4, u5⟩ := c6row H11r.out
          have hal := below_al wr (.cells (ttC uu) 38)
          have hT := SlX.one wr uu
          go_wp2_with (with_reducible refine wpList_load_rowG (by kernel_rfl) 34 _ rfl g8 (by kernel_rfl) _ CS1 _ _ RB.out Tryz.underlying34 rfl HSA.out ?_)
          ((with_reducible refine (HRo.out _ _ hal hT).mono ?_); rintro e w1 ⟨b1, rfl, hr1, hb1⟩)
          have HR1 := Lib.hid hr1
          have HW1 := Lib.hid (hal.nx hb1)
          have H9s := Lib.hid (keepD H9r.out HW1.out)
          clear u0 u1 u2 u3 u4 u5 hal hT hb1 hr1 RB H11r H9r HRo
          cases b1 with
          | false =>
            have hw1 := HWW.out.nx HW1.out
            clear HR1 HW1 H9s HRm HDEV HROWS HC14
            go_wp2_with fail
            ((with_reducible refine (HA.out _ hw1).mono ?_); rintro e wz ⟨rfl, hbz⟩)
            have hwz := (hw1).nx hbz
            go_wp2
            go_ret
            exact ⟨rfl, hwz⟩
          | true =>
            have HP1 := Lib.hid (HR1.out (by first | rfl | trivial))
            have RD := Lib.hid (HROWS.out w1 HW1.out).2.2.2.2.2
            obtain ⟨s0, s1, s2, s3, s4, s5⟩ := c6row H9s.out
            have hal := below_al w1 (.cells (ttC ⟨tt.a0, tt.a1, tt.a2, [48], [48], [48]⟩) 38)
            have hT := SlX.one w1 ⟨tt.a0, tt.a1, tt.a2, [48], [48], [48]⟩
            go_wp2_with (with_reducible refine wpList_load_rowG (by kernel_rfl) 34 _ rfl g13 (by kernel_rfl) _ CS2 _ _ RD.out Tryz.underlying34 rfl HSA2.out ?_)
            ((with_reducible refine (HRm.out _ _ (HW1.out.nx hal) hT).mono ?_); rintro e w2 ⟨b2, rfl, hr2, hb2⟩)
            have HR2 := Lib.hid hr2
            have HW2 := Lib.hid (HW1.out.nx (hal.nx hb2))
            clear s0 s1 s2 s3 s4 s5 hal hT hb2 hr2 RD H9s HRm HW1 HR1
            cases b2 with
            | false =>
              have hw2 := HWW.out.nx HW2.out
              clear HR2 HW2 HDEV HROWS HC14 HP1
              go_wp2_with fail
              ((with_reducible refine (HA.out _ hw2).mono ?_); rintro e wz ⟨rfl, hbz⟩)
              have hwz := (hw2).nx hbz
              go_wp2
              go_ret
              exact ⟨rfl, hwz⟩
            | true =>
              have HD := Lib.hid (HDEV.out HP1.out (HR2.out (by first | rfl | trivial)))
              clear HP1 HR2 HDEV
              have ce := HC14.out w2 HW2.out
              clear HC14
              go_upto_region 20 with fail
              clear ce
              go_loopw [108, 16] (fun si sj wq => ∃ i : Nat, si = .int .i64 (i : Int) ∧ i ≤ xn ∧ Hid (Below wr.heap.size wr wq)) (fun si _ _ => xn - (intOf si).toNat)
              case atStart => exact ⟨0, rfl, Nat.zero_le _, HW2.out⟩
              case round =>
                obtain ⟨i, rfl, hi, hB⟩ := hrel
                by_cases hlt : i < xn
                · obtain ⟨L, M, l0, l3, m3, D1, D2, D3, D4⟩ := HD.out i hlt
                  obtain ⟨nL, hnL⟩ : ∃ n, L.length = n := ⟨_, rfl⟩
                  obtain ⟨nM, hnM⟩ : ∃ n, M.length = n := ⟨_, rfl⟩
                  rw [hnL] at l0
                  have HD1 := Lib.hid D1
                  have HD2 := Lib.hid D2
                  have HD3 := Lib.hid D3
                  have HD4 := Lib.hid D4
                  have HL3 := Lib.hid l3
                  have HM3 := Lib.hid m3
                  have HL0 := Lib.hid l0
                  have HNL := Lib.hid hnL
                  have HNM := Lib.hid hnM
                  clear D1 D2 D3 D4 l3 m3 l0 HD hnL hnM
                  have j0 : (i : Int) < (xn : Int) := by omega
                  have j2 : xn ≤ 64 := HX64.out.1
                  have RA := Lib.hid (HROWS.out _ hB.out).1
                  have RT := Lib.hid (HROWS.out _ hB.out).2.1
                  go_wp2_with (first | (with_reducible refine wpList_load_row rfl 34 _ rfl w.heap.size (by kernel_rfl) _ CS0 _ _ RA.out Tryz.underlying34 rfl HSA0.out ?_) | (with_reducible refine wpList_load_row rfl 38 _ rfl gt (by kernel_rfl) _ CT _ _ RT.out Tryz.underlying38 rfl HST.out ?_))
                  ((with_reducible refine (HD1.out _ hB.out).mono ?_); rintro e v1 ⟨vd1, rfl, hS1, hb1⟩)
                  obtain ⟨da, dcap, e1⟩ := hS1.frm
                  rw [HNL.out] at e1
                  subst e1
                  have HS1 := Lib.hid hS1
                  have HV1 := Lib.hid (hB.out.nx hb1)
                  clear RA RT hb1 hS1 hB HD1
                  have RA := Lib.hid (HROWS.out _ HV1.out).2.2.1
                  have RT := Lib.hid (HROWS.out _ HV1.out).2.2.2.1
                  go_wp2_with (first | (with_reducible refine wpList_load_row rfl 34 _ rfl g8 (by kernel_rfl) _ CS1 _ _ RA.out Tryz.underlying34 rfl HSA.out ?_) | (with_reducible refine wpList_load_row rfl 38 _ rfl g11 (by kernel_rfl) _ CU _ _ RT.out Tryz.underlying38 rfl HSU.out ?_))
                  ((with_reducible refine (HD2.out _ HV1.out).mono ?_); rintro e v2 ⟨vd2, rfl, hS2, hb2⟩)
                  obtain ⟨db, dcp2, e2⟩ := hS2.frm
                  rw [HNL.out] at e2
                  subst e2
                  have HS1b := Lib.hid (HS1.out.later hb2)
                  have HS2 := Lib.hid hS2
                  have HV2 := Lib.hid (HV1.out.nx hb2)
                  clear RA RT hb2 hS2 HV1 HS1 HD2
                  have RA := Lib.hid (HROWS.out _ HV2.out).1
                  have RT := Lib.hid (HROWS.out _ HV2.out).2.2.2.2.1
                  go_wp2_with (first | (with_reducible refine wpList_load_row rfl 34 _ rfl w.heap.size (by kernel_rfl) _ CS0 _ _ RA.out Tryz.underlying34 rfl HSA0.out ?_) | (with_reducible refine wpList_load_row rfl 38 _ rfl g9 (by kernel_rfl) _ CV _ _ RT.out Tryz.underlying38 rfl HSV.out ?_))
                  ((with_reducible refine (HD3.out _ HV2.out).mono ?_); rintro e v3 ⟨vd3, rfl, hS3, hb3⟩)
                  obtain ⟨dc3, dcp3, e3⟩ := hS3.frm
                  rw [HNM.out] at e3
                  subst e3
                  have HS1c := Lib.hid (HS1b.out.later hb3)
                  have HS2b := Lib.hid (HS2.out.later hb3)
                  have HS3 := Lib.hid hS3
                  have HV3 := Lib.hid (HV2.out.nx hb3)
                  clear RA RT hb3 hS3 HV2 HS1b HS2 HD3
                  have RA := Lib.hid (HROWS.out _ HV3.out).2.2.2.2.2
                  have RT := Lib.hid (HROWS.out _ HV3.out).2.2.2.2.1
                  go_wp2_with (first | (with_reducible refine wpList_load_row rfl 34 _ rfl g13 (by kernel_rfl) _ CS2 _ _ RA.out Tryz.underlying34 rfl HSA2.out ?_) | (with_reducible refine wpList_load_row rfl 38 _ rfl g9 (by kernel_rfl) _ CV _ _ RT.out Tryz.underlying38 rfl HSV.out ?_))
                  ((with_reducible refine (HD4.out _ HV3.out).mono ?_); rintro e v4 ⟨vd4, rfl, hS4, hb4⟩)
                  obtain ⟨dd4, dcp4, e4⟩ := hS4.frm
                  rw [HNM.out] at e4
                  subst e4
                  have HE1 := Lib.hid (fun W (h : Below v4.heap.size v4 W) => rEq_c L W ((HS1c.out.later hb4).later h) ((HS2b.out.later hb4).later h) HL3.out)
                  have HE2 := Lib.hid (fun W (h : Below v4.heap.size v4 W) => rEq_c M W ((HS3.out.later hb4).later h) (hS4.later h) HM3.out)
                  have HV4 := Lib.hid (HV3.out.nx hb4)
                  have q0 : ¬ ((nL : Int) = 0) := by have := HL0.out; omega
                  have q1 : decide ((nL : Int) = 0) = false := decide_eq_false q0
                  have q2 : ((nL : Int) == 0) = false := by simpa using q0
                  have q3 : ¬ (nL = 0) := by have := HL0.out; omega
                  clear RA RT hb4 hS4 HV3 HS1c HS2b HS3 HD4 HL0 HL3 HM3 HNL HNM
                  clear L M
                  go_wp2_with fail
                  ((with_reducible refine (HE1.out _ (Below.refl _ _)).mono ?_); rintro e v5 ⟨rfl, hb5⟩)
                  have HV5 := Lib.hid hb5
                  clear hb5 q0 q1 q2 q3 HE1
                  go_wp2_with fail
                  ((with_reducible refine (HE2.out _ HV5.out).mono ?_); rintro e v6 ⟨rfl, hb6⟩)
                  have HV6 := Lib.hid (HV4.out.nx (HV5.out.nx hb6))
                  clear hb6 HE2 HV5 HV4
                  go_wp2
                  go_roundw
                  case rel => exact ⟨i + 1, by go_num, by omega, HV6.out⟩
                  case measure => simp [intOf]; omega
                · obtain rfl : i = xn := by omega
                  have hwr := HWW.out.nx hB.out
                  clear hB HD HROWS HW2
                  go_wp2_with fail
                  ((with_reducible refine (HA.out _ hwr).mono ?_); rintro e wz ⟨rfl, hbz⟩)
                  have hwz := (hwr).nx hbz
                  go_wp2
                  go_ret
                  exact ⟨rfl, hwz⟩
end Go.Proofs.Wk
