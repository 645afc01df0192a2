/- STRAIGHTNESS: the farthest points. -/
import Derived.Test.YtjopphkhpmoedaaGreatDoorNI
namespace Go.Proofs.Wk
open Go.RowKit Mt

structure LsG (w W : World) (g i j : Nat) : Prop where
  r : W.heap[w.heap.size]? = some (.cells #[.int .i64 0, .int .i64 0] 47 (0, 0))
  o : W.heap[g]? = some (.cells #[.int .i64 (i : Int), .int .i64 (j : Int)] 47 (0, 0))
  lt : w.heap.size < g
  w : Below w.heap.size w W
theorem LsG.later {w W W' : World} {g i j : Nat} (h : LsG w W g i j) (hb : Below W.heap.size W W') : LsG w W' g i j :=
  ⟨by rw [hb.block _ (Array.getElem?_eq_some_iff.1 h.r).1]; exact h.r, by rw [hb.block _ (Array.getElem?_eq_some_iff.1 h.o).1]; exact h.o, h.lt, h.w.nx hb⟩
theorem LsG.drew {w W : World} {g i j : Nat} (h : LsG w W g i j) : LsG w W.drew g i j := ⟨h.r, h.o, h.lt, h.w.drew⟩
theorem LsG.put {w W : World} {g i j : Nat} (h : LsG w W g i j) (i' j' : Nat) : LsG w ((W.setCell ⟨g, 0, none⟩ (.int .i64 (i' : Int))).setCell ⟨g, 1, none⟩ (.int .i64 (j' : Int))) g i' j' :=
  have := h.lt
  ⟨(o2row (show w.heap.size ≠ g by omega)).trans h.r, s2row h.o, h.lt, b2row h.w (by omega)⟩
/-- The same beside a boxed point and one in a row. -/
structure FrI (w W : World) (g gp b o i j : Nat) (p q : St.Pt) : Prop where
  s : LsG w W g i j
  p : PtAt W gp 0 p
  q : PtAt W b o q
theorem FrI.later {w W W' : World} {g gp b o i j : Nat} {p q : St.Pt} (h : FrI w W g gp b o i j p q) (hb : Below W.heap.size W W') : FrI w W' g gp b o i j p q := ⟨h.s.later hb, h.p.later hb, h.q.later hb⟩
theorem FrI.drew {w W : World} {g gp b o i j : Nat} {p q : St.Pt} (h : FrI w W g gp b o i j p q) : FrI w W.drew g gp b o i j p q := ⟨h.s.drew, h.p.drew, h.q.drew⟩
theorem FrI.t {w W : World} {g gp b o i j : Nat} {px py qx qy : Int} (h : FrI w W g gp b o i j ⟨px, py⟩ ⟨qx, qy⟩) :
    W.cell? ⟨gp, 0, none⟩ = some (.int .i64 px) ∧ W.cell? ⟨gp, 1, none⟩ = some (.int .i64 py) ∧ W.cell? ⟨b, o, none⟩ = some (.int .i64 qx) ∧ W.cell? ⟨b, o + 1, none⟩ = some (.int .i64 qy) ∧ FrI w W g gp b o i j ⟨px, py⟩ ⟨qx, qy⟩ :=
  ⟨h.p.c0, h.p.c1, h.q.c0, h.q.c1, h⟩
theorem PtAt.put2 {W : World} {gp o : Nat} {p : St.Pt} (h : PtAt W gp o p) {g : Nat} (hg : gp ≠ g) (u v : Value) : PtAt ((W.setCell ⟨g, 0, none⟩ u).setCell ⟨g, 1, none⟩ v) gp o p := by
  have e : ((W.setCell ⟨g, 0, none⟩ u).setCell ⟨g, 1, none⟩ v).heap[gp]? = W.heap[gp]? := o2row hg
  exact ⟨(World.cell?_of_block (a := ⟨gp, o, none⟩) e).trans h.c0, (World.cell?_of_block (a := ⟨gp, o + 1, none⟩) e).trans h.c1⟩
theorem PtAt.row {W : World} {g : Nat} {p : St.Pt} {T : TypeId} {fr : Nat × Nat} (h : W.heap[g]? = some (.cells #[.int .i64 p.x, .int .i64 p.y] T fr)) : PtAt W g 0 p := ⟨(c2row h).1, (c2row h).2⟩
theorem FrI.sto {w W : World} {g gp b o i j : Nat} {p q : St.Pt} (h : FrI w W g gp b o i j p q) {g2 : Nat} (hh : gp ≠ g2 ∧ b ≠ g2 ∧ g ≠ g2 ∧ w.heap.size < g2) (u v : Value) : FrI w ((W.setCell ⟨g2, 0, none⟩ u).setCell ⟨g2, 1, none⟩ v) g gp b o i j p q :=
  ⟨⟨(o2row (by omega)).trans h.s.r, (o2row (by omega)).trans h.s.o, h.s.lt, b2row h.s.w (by omega)⟩, h.p.put2 hh.1 _ _, h.q.put2 hh.2.1 _ _⟩
theorem far_yes {ls : List St.Pt} {i j : Nat} {s : Int × Nat × Nat} (h : s.1 < St.far (St.at_ ls i) (St.at_ ls j)) : St.farS ls i j s = (St.far (St.at_ ls i) (St.at_ ls j), i, j) := by unfold St.farS; rw [if_pos h]
theorem far_no {ls : List St.Pt} {i j : Nat} {s : Int × Nat × Nat} (h : ¬ s.1 < St.far (St.at_ ls i) (St.at_ ls j)) : St.farS ls i j s = s := by unfold St.farS; rw [if_neg h]
set_option maxRecDepth 100000 in
set_option maxHeartbeats 4000000 in
theorem hFarthest_c {v : Value} (ls : List St.Pt) (w : World) (S : SlX w v ls) (hin : ∀ p ∈ ls, St.InP p) (h2 : 2 ≤ ls.length) (hn : ls.length ≤ 64) :
    Calls Tryz.prog 83 #[v] w (Ret w (.tuple #[.int .i64 (St.farL ls).1, .agg #[.int .i64 ((St.farL ls).2.1 : Int), .int .i64 ((St.farL ls).2.2 : Int)], .int .i64 0])) := by
  refine S.cases _ ?_ ?_
  · rintro a cap rfl rfl
    simp at h2
  rintro b off cap rfl hp hR hb
  have hchk : St.chkP ls = 0 := by
    rw [chkP_all (by omega)]; unfold allE; exact if_pos (List.all_eq_true.2 fun p hp => St.inB_iff.2 (hin p hp))
  have hCK := fun W (h : Below w.heap.size w W) => vCheck_c ls W (S.later h) (by omega)
  rw [hchk] at hCK
  have HCK := Lib.hid hCK
  have hE : St.fAll ls 0 (-1, 0, 0) = St.farL ls := rfl
  generalize St.farL ls = E at *
  have HE := Lib.hid hE
  have HR := Lib.hid (fun (W : World) (h : Below w.heap.size w W) (k : Nat) (hk : k < ls.length) => (hR.later h hb).ptAt hk)
  have HIN := Lib.hid (fun (k : Nat) (hk : k < ls.length) => St.at_in hin hk)
  have hz := heap_alloc_new w (.cells #[.int .i64 0, .int .i64 0] 47)
  have hA := below_al w (.cells #[.int .i64 0, .int .i64 0] 47)
  have hl2 : ¬ (ls.length : Int) < 2 := by omega
  clear hR S hin hchk hCK hE
  go_enter Tryz.func83, Tryz.ntmps83
  go_wp2_with fail
  generalize w.alloc (.cells #[.int .i64 0, .int .i64 0] 47) = W1 at *
  ((with_reducible refine (HCK.out _ hA).mono ?_); rintro e w1 ⟨rfl, hb1⟩)
  have hB1 := hA.nx hb1
  have hz1 : w1.heap[w.heap.size]? = some (.cells #[.int .i64 0, .int .i64 0] 47 (0, 0)) := by rw [hb1.block _ (Array.getElem?_eq_some_iff.1 hz).1]; exact hz
  have hlt1 : w.heap.size < w1.heap.size := (Array.getElem?_eq_some_iff.1 hz1).1
  have hA2 := below_al w1 (.cells #[.int .i64 0, .int .i64 0] 47)
  have hG : LsG w (w1.alloc (.cells #[.int .i64 0, .int .i64 0] 47)) w1.heap.size 0 0 := ⟨by rw [hA2.block _ hlt1]; exact hz1, heap_alloc_new w1 _, hlt1, hB1.nx hA2⟩
  have HG := Lib.hid hG
  clear hz hA hB1 hz1 hA2 hG HCK hb1
  go_wp2_with fail
  generalize w1.alloc (.cells #[.int .i64 0, .int .i64 0] 47) = W2 at *
  generalize w1.heap.size = g at *
  go_loopw [6, 26] (fun sb si wr => ∃ (i : Nat) (s : Int × Nat × Nat), sb = .int .i64 s.1 ∧ si = .int .i64 (i : Int) ∧ i ≤ ls.length ∧ Hid (St.fAll ls i s = E) ∧ Hid (LsG w wr g s.2.1 s.2.2)) (fun _ si _ => ls.length - (intOf si).toNat)
  case atStart => exact ⟨0, (-1, 0, 0), rfl, rfl, Nat.zero_le _, HE.out, HG.out⟩
  case round =>
    obtain ⟨i, s, rfl, rfl, hi, hs, hI⟩ := hrel
    clear HE HG
    by_cases hlt : i < ls.length
    · have hst := hs.out
      rw [St.fAll_step hlt] at hst
      have HST := Lib.hid hst
      have hpi := HR.out _ hI.out.w i hlt
      have hAl := below_al wr (.cells #[.int .i64 (St.at_ ls i).x, .int .i64 (St.at_ ls i).y] 37)
      have hpn := PtAt.new wr (St.at_ ls i) 37
      have hI2 := hI.out.later hAl
      have hgp : wr.heap.size ≠ g := fun e => by have := (Array.getElem?_eq_some_iff.1 hI.out.o).1; omega
      have hip := HIN.out i hlt
      have hFR := fun j (hj : j < ls.length) => (St.far_dot (St.at_ ls j) (St.at_ ls i)).symm.trans (St.far_swap _ _)
      have hfy := fun j s => @far_yes ls i j s
      have hfn := fun j s => @far_no ls i j s
      generalize hpq : St.at_ ls i = p at *
      obtain ⟨px, py⟩ := p
      have k0 := hpi.c0
      have k1 := hpi.c1
      simp only at k0 k1 hAl hpn hI2
      have HI2 := Lib.hid hI2
      have HPN := Lib.hid hpn
      have HFR := Lib.hid hFR
      have HFY := Lib.hid hfy
      have HFN := Lib.hid hfn
      clear hst hs hpi hAl hI hI2 hpn hpq hFR hfy hfn
      go_wp2_with fail
      generalize wr.alloc (.cells #[.int .i64 px, .int .i64 py] 37) = W3 at *
      generalize wr.heap.size = gp at *
      clear k0 k1
      go_loopw [6, 10] (fun sb sj wr => ∃ (j : Nat) (s : Int × Nat × Nat), sb = .int .i64 s.1 ∧ sj = .int .i64 (j : Int) ∧ i < j ∧ j ≤ ls.length ∧ Hid (St.fAll ls (i + 1) (St.fRow ls i j s) = E) ∧ Hid (LsG w wr g s.2.1 s.2.2) ∧ Hid (PtAt wr gp 0 ⟨px, py⟩)) (fun _ sj _ => ls.length - (intOf sj).toNat)
      case atStart => exact ⟨i + 1, s, rfl, by go_num, by omega, by omega, HST.out, HI2.out, HPN.out⟩
      case round =>
        clear HST HI2 HPN
        obtain ⟨j, t, rfl, rfl, hij, hj, hs2, hI3, hP3⟩ := hrel
        by_cases hlt2 : j < ls.length
        · have hst2 := hs2.out
          rw [St.fRow_step hlt2] at hst2
          have hjp := HIN.out j hlt2
          have hr0 : FrI w wr g gp b (off + j * 2) t.2.1 t.2.2 ⟨px, py⟩ (St.at_ ls j) := ⟨hI3.out, hP3.out, HR.out _ hI3.out.w j hlt2⟩
          have HL := Lib.hid (fun W => hless_c ⟨px, py⟩ (St.at_ ls j) W hip hjp)
          have hfr := HFR.out j hlt2
          have hdb := sub_bd hip hjp
          have hfy := HFY.out j t
          have hfn := HFN.out j t
          have hD := fun W => hdot_c (St.sub ⟨px, py⟩ (St.at_ ls j)) (St.sub ⟨px, py⟩ (St.at_ ls j)) 200000 W hdb hdb (by decide)
          rw [hfr] at hD
          generalize St.far ⟨px, py⟩ (St.at_ ls j) = n at *
          generalize St.sub ⟨px, py⟩ (St.at_ ls j) = d at *
          generalize St.at_ ls j = q at *
          obtain ⟨qx, qy⟩ := q
          obtain ⟨dx, dy⟩ := d
          obtain ⟨tn, ta, tb⟩ := t
          simp only at hr0 hfy hfn
          have HD := Lib.hid hD
          have HR0 := Lib.hid hr0
          have HS2 := Lib.hid hst2
          have HY := Lib.hid hfy
          have HN := Lib.hid hfn
          clear hst2 hs2 hr0 hfr hdb hfy hfn hD hI3 hP3
          have HNE := Lib.hid (show gp ≠ wr.heap.size ∧ b ≠ wr.heap.size ∧ g ≠ wr.heap.size ∧ w.heap.size < wr.heap.size from by
            have h1 := HR0.out.p.lt
            have h2 := HR0.out.q.lt
            have h3 := (Array.getElem?_eq_some_iff.1 HR0.out.s.o).1
            have h4 := HR0.out.s.lt
            omega)
          go_wp2_with fail
          go_cut [11] (fun s11 wx => ∃ gd, s11 = .pointer (some ⟨gd, 0, none⟩) ∧ Hid (PtAt wx gd 0 ⟨dx, dy⟩) ∧ Hid (LsG w wx g ta tb) ∧ Hid (PtAt wx gp 0 ⟨px, py⟩))
          case first =>
            go_region_held3 (fun w' => w'.cell? ⟨gp, 0, none⟩ = some (.int .i64 px) ∧ w'.cell? ⟨gp, 1, none⟩ = some (.int .i64 py) ∧ w'.cell? ⟨b, off + j * 2, none⟩ = some (.int .i64 qx) ∧ w'.cell? ⟨b, off + j * 2 + 1, none⟩ = some (.int .i64 qy) ∧ FrI w w' g gp b (off + j * 2) ta tb ⟨px, py⟩ ⟨qx, qy⟩)
              (first | exact JJ.t | exact (JJ.later (below_al _ _)).t | exact (JJ.sto HNE.out _ _).t | exact HR0.out.t | exact HR0.out.drew.t | exact (HR0.out.later (below_al _ _)).t | exact (HR0.out.drew.later (below_al _ _)).t | exact (HR0.out.later (below_al _ _)).drew.t)
              (first
                | (go_at_call 120; (with_reducible refine (HL.out _).mono ?_); rintro e w2 ⟨rfl, hb2⟩;
                    (first
                      | have JJ := HR0.out.drew.later hb2
                      | have JJ := HR0.out.later hb2
                      | (have hbx : Below (wr.alloc (.cells #[.int .i64 0, .int .i64 0] 37)).heap.size (wr.alloc (.cells #[.int .i64 0, .int .i64 0] 37)) w2 := ⟨hb2.os, hb2.tape, hb2.output, hb2.size, hb2.block⟩;
                         have JJ := (HR0.out.later (below_al wr _)).later hbx; have hzz := (hbx.block _ (alloc_lt wr _)).trans (heap_alloc_new wr _); obtain ⟨z0, z1⟩ := c2row hzz; have f0 := (fun k => free_row hzz k))))
                | fail)
            all_goals (go_wp2_with fail; go_meet)
            all_goals
              first
                | exact ⟨_, rfl, PtAt.new w2 ⟨dx, dy⟩ _, (JJ.later (below_al _ _)).s, (JJ.later (below_al _ _)).p⟩
                | exact ⟨_, rfl, PtAt.row (s2row hzz), (JJ.sto HNE.out _ _).s, (JJ.sto HNE.out _ _).p⟩
                | trace_state
          case rest =>
            obtain ⟨gd, rfl, HDD, HLG, HPP⟩ := hcut
            have c0 := HDD.out.c0
            have c1 := HDD.out.c1
            clear HR0 HNE
            go_wp2_with fail
            ((with_reducible refine (HD.out _).mono ?_); rintro e w3 ⟨rfl, hb3⟩)
            have HL3 := Lib.hid (HLG.out.later hb3)
            have HP3 := Lib.hid (HPP.out.later hb3)
            obtain ⟨d0, d1⟩ := c2row HL3.out.o
            have hf := fun k => free_row HL3.out.o k
            clear c0 c1 HDD HLG HPP hb3
            rcases Int.lt_or_le tn n with hc | hc
            · have HS3 := Lib.hid (show St.fAll ls (i + 1) (St.fRow ls i (j + 1) (n, i, j)) = E by rw [← HY.out hc]; exact HS2.out)
              clear HY HN HS2
              go_wp2
              go_roundw
              case rel => exact ⟨j + 1, (n, i, j), rfl, by go_num, by omega, by omega, HS3.out, HL3.out.put _ _, HP3.out.put2 hgp _ _⟩
              case measure => simp [intOf]; omega
            · have HS3 := Lib.hid (show St.fAll ls (i + 1) (St.fRow ls i (j + 1) (tn, ta, tb)) = E by rw [← HN.out (by omega)]; exact HS2.out)
              clear HY HN HS2
              go_wp2
              go_roundw
              case rel => exact ⟨j + 1, (tn, ta, tb), rfl, by go_num, by omega, by omega, HS3.out, HL3.out, HP3.out⟩
              case measure => simp [intOf]; omega
        · obtain rfl : j = ls.length := by omega
          have hs3 := hs2.out
          rw [St.fRow_end (Nat.lt_irrefl _)] at hs3
          have HS3 := Lib.hid hs3
          clear hs3 hs2
          go_wp2
          go_roundw
          case rel => exact ⟨i + 1, t, rfl, by go_num, by omega, HS3.out, hI3.out⟩
          case measure => simp [intOf]; omega
    · obtain rfl : i = ls.length := by omega
      have hs3 := hs.out
      rw [St.fAll_end (Nat.lt_irrefl _)] at hs3
      subst hs3
      obtain ⟨d0, d1⟩ := c2row hI.out.o
      obtain ⟨e0, e1⟩ := c2row hI.out.r
      have hf := fun k => free_row hI.out.r k
      have q1 : ¬ g = w.heap.size := by have := hI.out.lt; omega
      have q2 : ¬ w.heap.size = g := by omega
      have HI := Lib.hid hI.out
      obtain ⟨sn, sa, sb⟩ := s
      simp only at d0 d1
      clear hI hs
      go_wp2_with fail
      go_region
      all_goals
        go_wp2
        refine bodyPost_ret (res_tct rfl (by kernel_rfl) (s2rowd HI.out.r) Tryz.underlying47 rfl (by kernel_rfl) rfl rfl) rfl ?_
        exact ⟨rfl, (b2row HI.out.w (Nat.le_refl _)).drew⟩
end Go.Proofs.Wk
