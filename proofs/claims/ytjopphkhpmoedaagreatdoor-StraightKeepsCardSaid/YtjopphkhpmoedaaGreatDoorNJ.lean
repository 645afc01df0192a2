/- STRAIGHTNESS: the farthest points in the reference; Ends. -/
import Derived.Test.YtjopphkhpmoedaaGreatDoorSbP
import Derived.Test.YtjopphkhpmoedaaGreatDoorHE
namespace Go.Proofs.Wk
open Go.RowKit Mt

structure FqI (w W : World) (g b o1 o2 i j : Nat) (p q : St.Pt) : Prop where
  s : LsG w W g i j
  p : PtAt W b o1 p
  q : PtAt W b o2 q
theorem FqI.later {w W W' : World} {g b o1 o2 i j : Nat} {p q : St.Pt} (h : FqI w W g b o1 o2 i j p q) (hb : Below W.heap.size W W') : FqI w W' g b o1 o2 i j p q := ⟨h.s.later hb, h.p.later hb, h.q.later hb⟩
theorem FqI.drew {w W : World} {g b o1 o2 i j : Nat} {p q : St.Pt} (h : FqI w W g b o1 o2 i j p q) : FqI w W.drew g b o1 o2 i j p q := ⟨h.s.drew, h.p.drew, h.q.drew⟩
theorem FqI.t {w W : World} {g b o1 o2 i j : Nat} {px py qx qy : Int} (h : FqI w W g b o1 o2 i j ⟨px, py⟩ ⟨qx, qy⟩) :
    W.cell? ⟨b, o1, none⟩ = some (.int .i64 px) ∧ W.cell? ⟨b, o1 + 1, none⟩ = some (.int .i64 py) ∧ W.cell? ⟨b, o2, none⟩ = some (.int .i64 qx) ∧ W.cell? ⟨b, o2 + 1, none⟩ = some (.int .i64 qy) ∧ FqI w W g b o1 o2 i j ⟨px, py⟩ ⟨qx, qy⟩ :=
  ⟨h.p.c0, h.p.c1, h.q.c0, h.q.c1, h⟩
set_option maxRecDepth 100000 in
set_option maxHeartbeats 4000000 in
theorem r8Farthest_c {v : Value} (ls : List St.Pt) (w : World) (S : SlX w v ls) (hin : ∀ p ∈ ls, St.InP p) (h2 : 2 ≤ ls.length) (hn : ls.length ≤ 64) :
    Calls Tryz.prog 85 #[v] w (Ret w (.tuple #[.int .i64 (St.farL ls).1, .agg #[.int .i64 ((St.farL ls).2.1 : Int), .int .i64 ((St.farL ls).2.2 : Int)], .int .i64 0])) := by
  refine S.cases _ ?_ ?_
  · rintro a cap rfl rfl
    simp at h2
  rintro b off cap rfl hp hR hb
  have hchk : St.chkP ls = 0 := by
    rw [chkP_all (by omega)]; unfold allE; exact if_pos (List.all_eq_true.2 fun p hp => St.inB_iff.2 (hin p hp))
  have hCK := fun W (h : Below w.heap.size w W) => rpCheck_c ls W (S.later h) (by omega)
  rw [hchk] at hCK
  have HCK := Lib.hid hCK
  have hE : St.fAll ls 0 (-1, 0, 0) = St.farL ls := rfl
  generalize St.farL ls = E at *
  have HE := Lib.hid hE
  have HR := Lib.hid (fun (W : World) (h : Below w.heap.size w W) (k : Nat) (hk : k < ls.length) => (hR.later h hb).ptAt hk)
  have HIN := Lib.hid (fun (k : Nat) (hk : k < ls.length) => St.at_in hin hk)
  have hz := heap_alloc_new w (.cells #[.int .i64 0, .int .i64 0] 47)
  have hA := below_al w (.cells #[.int .i64 0, .int .i64 0] 47)
  have hl2 : ¬ (ls.length : Int) < 2 := by omega
  clear hR S hin hchk hCK hE
  go_enter Tryz.func85, Tryz.ntmps85
  go_wp2_with fail
  generalize w.alloc (.cells #[.int .i64 0, .int .i64 0] 47) = W1 at *
  ((with_reducible refine (HCK.out _ hA).mono ?_); rintro e w1 ⟨rfl, hb1⟩)
  have hB1 := hA.nx hb1
  have hz1 : w1.heap[w.heap.size]? = some (.cells #[.int .i64 0, .int .i64 0] 47 (0, 0)) := by rw [hb1.block _ (Array.getElem?_eq_some_iff.1 hz).1]; exact hz
  have hlt1 : w.heap.size < w1.heap.size := (Array.getElem?_eq_some_iff.1 hz1).1
  have hA2 := below_al w1 (.cells #[.int .i64 0, .int .i64 0] 47)
  have hG : LsG w (w1.alloc (.cells #[.int .i64 0, .int .i64 0] 47)) w1.heap.size 0 0 := ⟨by rw [hA2.block _ hlt1]; exact hz1, heap_alloc_new w1 _, hlt1, hB1.nx hA2⟩
  have HG := Lib.hid hG
  clear hz hA hB1 hz1 hA2 hG HCK hb1
  go_wp2_with fail
  generalize w1.alloc (.cells #[.int .i64 0, .int .i64 0] 47) = W2 at *
  generalize w1.heap.size = g at *
  go_loopw [6, 8] (fun sb si wr => ∃ (i : Nat) (s : Int × Nat × Nat), sb = .int .i64 s.1 ∧ si = .int .i64 (i : Int) ∧ i ≤ ls.length ∧ Hid (St.fAll ls i s = E) ∧ Hid (LsG w wr g s.2.1 s.2.2)) (fun _ si _ => ls.length - (intOf si).toNat)
  case atStart => exact ⟨0, (-1, 0, 0), rfl, rfl, Nat.zero_le _, HE.out, HG.out⟩
  case round =>
    obtain ⟨i, s, rfl, rfl, hi, hs, hI⟩ := hrel
    clear HE HG
    by_cases hlt : i < ls.length
    · have hst := hs.out
      rw [St.fAll_step hlt] at hst
      have HST := Lib.hid hst
      clear hst hs
      go_wp2_with fail
      go_loopw [6, 9] (fun sb sj wr => ∃ (j : Nat) (s : Int × Nat × Nat), sb = .int .i64 s.1 ∧ sj = .int .i64 (j : Int) ∧ i < j ∧ j ≤ ls.length ∧ Hid (St.fAll ls (i + 1) (St.fRow ls i j s) = E) ∧ Hid (LsG w wr g s.2.1 s.2.2)) (fun _ sj _ => ls.length - (intOf sj).toNat)
      case atStart => exact ⟨i + 1, s, rfl, by go_num, by omega, by omega, HST.out, hI.out⟩
      case round =>
        clear HST hI
        obtain ⟨j, t, rfl, rfl, hij, hj, hs2, hI3⟩ := hrel
        by_cases hlt2 : j < ls.length
        · have hst2 := hs2.out
          rw [St.fRow_step hlt2] at hst2
          have hr0 : FqI w wr g b (off + i * 2) (off + j * 2) t.2.1 t.2.2 (St.at_ ls i) (St.at_ ls j) := ⟨hI3.out, HR.out _ hI3.out.w i hlt, HR.out _ hI3.out.w j hlt2⟩
          have HL := Lib.hid (fun W => rFar_c (St.at_ ls i) (St.at_ ls j) W (HIN.out i hlt) (HIN.out j hlt2))
          have hfy := @far_yes ls i j t
          have hfn := @far_no ls i j t
          generalize St.far (St.at_ ls i) (St.at_ ls j) = n at *
          generalize St.at_ ls i = p at *
          generalize St.at_ ls j = q at *
          obtain ⟨px, py⟩ := p
          obtain ⟨qx, qy⟩ := q
          obtain ⟨tn, ta, tb⟩ := t
          simp only at hr0 hfy hfn
          have HR0 := Lib.hid hr0
          have HS2 := Lib.hid hst2
          have HY := Lib.hid hfy
          have HN := Lib.hid hfn
          clear hst2 hs2 hr0 hfy hfn hI3
          go_wp2_with fail
          go_region_held3 (fun w' => w'.cell? ⟨b, off + i * 2, none⟩ = some (.int .i64 px) ∧ w'.cell? ⟨b, off + i * 2 + 1, none⟩ = some (.int .i64 py) ∧ w'.cell? ⟨b, off + j * 2, none⟩ = some (.int .i64 qx) ∧ w'.cell? ⟨b, off + j * 2 + 1, none⟩ = some (.int .i64 qy) ∧ FqI w w' g b (off + i * 2) (off + j * 2) ta tb ⟨px, py⟩ ⟨qx, qy⟩)
            (first | exact JJ.t | exact HR0.out.t | exact HR0.out.drew.t)
            (first
              | (go_at_call 22; (with_reducible refine (HL.out _).mono ?_); rintro e w2 ⟨rfl, hb2⟩; (first | have JJ := HR0.out.drew.later hb2 | have JJ := HR0.out.later hb2))
              | fail)
          all_goals
            have HL3 := Lib.hid JJ.s
            clear JJ
            obtain ⟨d0, d1⟩ := c2row HL3.out.o
            have hf := fun k => free_row HL3.out.o k
            rcases Int.lt_or_le tn n with hc | hc
            · have HS3 := Lib.hid (show St.fAll ls (i + 1) (St.fRow ls i (j + 1) (n, i, j)) = E by rw [← HY.out hc]; exact HS2.out)
              clear HY HN HS2
              go_wp2
              go_roundw
              case rel => exact ⟨j + 1, (n, i, j), rfl, by go_num, by omega, by omega, HS3.out, HL3.out.put _ _⟩
              case measure => simp [intOf]; omega
            · have HS3 := Lib.hid (show St.fAll ls (i + 1) (St.fRow ls i (j + 1) (tn, ta, tb)) = E by rw [← HN.out (by omega)]; exact HS2.out)
              clear HY HN HS2
              go_wp2
              go_roundw
              case rel => exact ⟨j + 1, (tn, ta, tb), rfl, by go_num, by omega, by omega, HS3.out, HL3.out⟩
              case measure => simp [intOf]; omega
        · obtain rfl : j = ls.length := by omega
          have hs3 := hs2.out
          rw [St.fRow_end (Nat.lt_irrefl _)] at hs3
          have HS3 := Lib.hid hs3
          clear hs3 hs2
          go_wp2
          go_roundw
          case rel => exact ⟨i + 1, t, rfl, by go_num, by omega, HS3.out, hI3.out⟩
          case measure => simp [intOf]; omega
    · obtain rfl : i = ls.length := by omega
      have hs3 := hs.out
      rw [St.fAll_end (Nat.lt_irrefl _)] at hs3
      subst hs3
      obtain ⟨d0, d1⟩ := c2row hI.out.o
      obtain ⟨e0, e1⟩ := c2row hI.out.r
      have hf := fun k => free_row hI.out.r k
      have q1 : ¬ g = w.heap.size := by have := hI.out.lt; omega
      have q2 : ¬ w.heap.size = g := by omega
      have HI := Lib.hid hI.out
      obtain ⟨sn, sa, sb⟩ := s
      simp only at d0 d1
      clear hI hs
      go_wp2_with fail
      go_region
      all_goals
        go_wp2
        refine bodyPost_ret (res_tct rfl (by kernel_rfl) (s2rowd HI.out.r) Tryz.underlying47 rfl (by kernel_rfl) rfl rfl) rfl ?_
        exact ⟨rfl, (b2row HI.out.w (Nat.le_refl _)).drew⟩
/-- What Ends returns. -/
def endE (ls : List St.Pt) : Txt × Int :=
  if St.givP ls = 0 then (if St.same ls = true then ([], 10) else (rtoa (St.wq (St.acr ls (St.at_ ls (St.farL ls).2.1) (St.at_ ls (St.farL ls).2.2)) (St.at_ ls (St.farL ls).2.1) (St.at_ ls (St.farL ls).2.2)), 0)) else ([], St.givP ls)
theorem same_two {ls : List St.Pt} (h0 : 0 < ls.length) (h : St.same ls = false) : 2 ≤ ls.length := by
  obtain ⟨h1, h2, -⟩ := St.farL_pair h
  omega
/-- What Ends reads. -/
structure EnR (w W : World) (gp b o1 o2 i j : Nat) (p q : St.Pt) : Prop where
  o : W.heap[gp]? = some (.cells #[.int .i64 (i : Int), .int .i64 (j : Int)] 47 (0, 0))
  p : PtAt W b o1 p
  q : PtAt W b o2 q
  w : Below w.heap.size w W
theorem EnR.later {w W W' : World} {gp b o1 o2 i j : Nat} {p q : St.Pt} (h : EnR w W gp b o1 o2 i j p q) (hb : Below W.heap.size W W') : EnR w W' gp b o1 o2 i j p q :=
  ⟨by rw [hb.block _ (Array.getElem?_eq_some_iff.1 h.o).1]; exact h.o, h.p.later hb, h.q.later hb, h.w.nx hb⟩
theorem EnR.drew {w W : World} {gp b o1 o2 i j : Nat} {p q : St.Pt} (h : EnR w W gp b o1 o2 i j p q) : EnR w W.drew gp b o1 o2 i j p q := ⟨h.o, h.p.drew, h.q.drew, h.w.drew⟩
theorem EnR.t {w W : World} {gp b o1 o2 i j : Nat} {px py qx qy : Int} (h : EnR w W gp b o1 o2 i j ⟨px, py⟩ ⟨qx, qy⟩) :
    W.cell? ⟨gp, 0, none⟩ = some (.int .i64 (i : Int)) ∧ W.cell? ⟨gp, 1, none⟩ = some (.int .i64 (j : Int)) ∧ W.cell? ⟨b, o1, none⟩ = some (.int .i64 px) ∧ W.cell? ⟨b, o1 + 1, none⟩ = some (.int .i64 py) ∧ W.cell? ⟨b, o2, none⟩ = some (.int .i64 qx) ∧ W.cell? ⟨b, o2 + 1, none⟩ = some (.int .i64 qy) ∧
      EnR w W gp b o1 o2 i j ⟨px, py⟩ ⟨qx, qy⟩ :=
  ⟨(c2row h.o).1, (c2row h.o).2, h.p.c0, h.p.c1, h.q.c0, h.q.c1, h⟩
end Go.Proofs.Wk
/- STRAIGHTNESS: Ends and Across, in the program and in the reference. -/
namespace Go.Proofs.Wk
open Go.RowKit Mt

theorem endE_same {ls : List St.Pt} (h : St.givP ls = 0) (h2 : St.same ls = true) : endE ls = ([], 10) := by unfold endE; rw [if_pos h, if_pos h2]
theorem endE_ok {ls : List St.Pt} (h : St.givP ls = 0) (h2 : St.same ls = false) : endE ls = (rtoa (St.wq (St.acr ls (St.at_ ls (St.farL ls).2.1) (St.at_ ls (St.farL ls).2.2)) (St.at_ ls (St.farL ls).2.1) (St.at_ ls (St.farL ls).2.2)), 0) := by
  unfold endE; rw [if_pos h, if_neg (by rw [h2]; simp)]
theorem endE_bad {ls : List St.Pt} (h : ¬ St.givP ls = 0) : endE ls = ([], St.givP ls) := by unfold endE; rw [if_neg h]
set_option maxRecDepth 100000 in
set_option maxHeartbeats 2000000 in
theorem Ends_c {v : Value} (ls : List St.Pt) (w : World) (hg : Good w) (S : SlX w v ls) (hln : ls.length ≤ 140737488355328) : Calls Tryz.prog 41 #[v] w (Ret w (ans2 (endE ls))) := by
  have HGV := Lib.hid (fun W (h : Below w.heap.size w W) => given_c ls W (S.later h) hln)
  by_cases h0 : St.givP ls = 0
  · obtain ⟨i1, i2, i3⟩ := St.givP_in h0
    have e1 := fun h => endE_same h0 h
    have e2 := fun h => endE_ok h0 h
    rw [h0] at HGV
    have HSM := Lib.hid (fun W (h : Below w.heap.size w W) => same_c ls W (S.later h) i1 hln)
    cases hsm : St.same ls with
    | true =>
      have hEE := e1 hsm
      rw [hsm] at HSM
      rw [hEE]
      obtain ⟨sa, cap, rfl⟩ := S.len
      clear hEE hsm h0 S e1 e2
      go_enter Tryz.func41, Tryz.ntmps41
      go_wp2_with fail
      ((with_reducible refine (HGV.out _ (Below.refl _ _)).mono ?_); rintro e w1 ⟨rfl, hb1⟩)
      go_wp2_with fail
      ((with_reducible refine (HSM.out _ hb1).mono ?_); rintro e w2 ⟨rfl, hb2⟩)
      have hB2 := hb1.nx hb2
      go_wp2
      go_ret2
      exact ⟨rfl, hB2⟩
    | false =>
      have hEE := e2 hsm
      rw [hsm] at HSM
      obtain ⟨f1, f2, f3⟩ := St.farL_pair hsm
      have HFA := Lib.hid (fun W (h : Below w.heap.size w W) => hFarthest_c ls W (S.later h) i3 (same_two i1 hsm) i2)
      have HAC := Lib.hid (fun W (h : Below w.heap.size w W) => across_c ls (St.at_ ls (St.farL ls).2.1) (St.at_ ls (St.farL ls).2.2) W (hg.later h) (S.later h) i3 i1 i2 (St.at_in i3 (by omega)) (St.at_in i3 f2) f3)
      rw [hEE]
      refine S.cases _ ?_ ?_
      · rintro a cap rfl rfl
        simp at i1
      rintro b off cap rfl hp hR hb
      have HR := Lib.hid (fun (W : World) (h : Below w.heap.size w W) (k : Nat) (hk : k < ls.length) => (hR.later h hb).ptAt hk)
      generalize rtoa (St.wq (St.acr ls (St.at_ ls (St.farL ls).2.1) (St.at_ ls (St.farL ls).2.2)) (St.at_ ls (St.farL ls).2.1) (St.at_ ls (St.farL ls).2.2)) = T at *
      generalize St.farL ls = fp at *
      obtain ⟨fn, fi, fj⟩ := fp
      simp only at f1 f2 f3 HFA HAC
      clear hEE hsm h0 S e1 e2 hR f3
      have f0 : fi < ls.length := by omega
      go_enter Tryz.func41, Tryz.ntmps41
      go_wp2_with fail
      ((with_reducible refine (HGV.out _ (Below.refl _ _)).mono ?_); rintro e w1 ⟨rfl, hb1⟩)
      go_wp2_with fail
      ((with_reducible refine (HSM.out _ hb1).mono ?_); rintro e w2 ⟨rfl, hb2⟩)
      have hB2 := hb1.nx hb2
      go_wp2_with fail
      ((with_reducible refine (HFA.out _ hB2).mono ?_); rintro e w3 ⟨rfl, hb3⟩)
      have hB3 := hB2.nx hb3
      have hAl := below_al w3 (.cells #[.int .i64 (fi : Int), .int .i64 (fj : Int)] 47)
      have hB4 := hB3.nx hAl
      have hr0 : EnR w (w3.alloc (.cells #[.int .i64 (fi : Int), .int .i64 (fj : Int)] 47)) w3.heap.size b (off + fi * 2) (off + fj * 2) fi fj (St.at_ ls fi) (St.at_ ls fj) := ⟨heap_alloc_new w3 _, HR.out _ hB4 fi f0, HR.out _ hB4 fj f2, hB4⟩
      generalize St.at_ ls fi = p at *
      generalize St.at_ ls fj = q at *
      obtain ⟨px, py⟩ := p
      obtain ⟨qx, qy⟩ := q
      have HR0 := Lib.hid hr0
      clear hr0 hB2 hB3 hB4 hAl hb1 hb2 hb3 HGV HSM HFA
      go_wp2_with fail
      generalize w3.alloc (.cells #[.int .i64 (fi : Int), .int .i64 (fj : Int)] 47) = W4 at *
      generalize w3.heap.size = gp at *
      go_region_held3 (fun w' => w'.cell? ⟨gp, 0, none⟩ = some (.int .i64 (fi : Int)) ∧ w'.cell? ⟨gp, 1, none⟩ = some (.int .i64 (fj : Int)) ∧ w'.cell? ⟨b, off + fi * 2, none⟩ = some (.int .i64 px) ∧ w'.cell? ⟨b, off + fi * 2 + 1, none⟩ = some (.int .i64 py) ∧ w'.cell? ⟨b, off + fj * 2, none⟩ = some (.int .i64 qx) ∧ w'.cell? ⟨b, off + fj * 2 + 1, none⟩ = some (.int .i64 qy) ∧
          EnR w w' gp b (off + fi * 2) (off + fj * 2) fi fj ⟨px, py⟩ ⟨qx, qy⟩)
        (first | exact JJ.t | exact HR0.out.t | exact HR0.out.drew.t)
        (first
          | (go_at_call 55; (with_reducible refine (HAC.out _ ?_).mono ?_); (first | exact HR0.out.drew.w | exact HR0.out.w); rintro e w5 ⟨rfl, hb5⟩; (first | have JJ := HR0.out.drew.later hb5 | have JJ := HR0.out.later hb5))
          | fail)
      all_goals
        have hJ := JJ.w
        clear JJ
        go_wp2
        go_ret2
        exact ⟨rfl, hJ⟩
  · have hEE := endE_bad h0
    rw [hEE]
    generalize St.givP ls = E at *
    have z : (E != 0) = true := bne_iff_ne.2 h0
    obtain ⟨sa, cap, rfl⟩ := S.len
    clear hEE h0 S
    go_enter Tryz.func41, Tryz.ntmps41
    go_wp2_with fail
    ((with_reducible refine (HGV.out _ (Below.refl _ _)).mono ?_); rintro e w1 ⟨rfl, hb1⟩)
    go_wp2
    go_ret2
    exact ⟨rfl, hb1⟩
set_option maxRecDepth 100000 in
set_option maxHeartbeats 2000000 in
theorem rEnds_c {v : Value} (ls : List St.Pt) (w : World) (S : SlX w v ls) (hln : ls.length ≤ 140737488355328) : Calls Tryz.prog 42 #[v] w (Ret w (ans2 (endE ls))) := by
  have HGV := Lib.hid (fun W (h : Below w.heap.size w W) => rGiven_c ls W (S.later h) hln)
  by_cases h0 : St.givP ls = 0
  · obtain ⟨i1, i2, i3⟩ := St.givP_in h0
    have e1 := fun h => endE_same h0 h
    have e2 := fun h => endE_ok h0 h
    rw [h0] at HGV
    have HSM := Lib.hid (fun W (h : Below w.heap.size w W) => rsame_c ls W (S.later h) i1 hln)
    cases hsm : St.same ls with
    | true =>
      have hEE := e1 hsm
      rw [hsm] at HSM
      rw [hEE]
      obtain ⟨sa, cap, rfl⟩ := S.len
      clear hEE hsm h0 S e1 e2
      go_enter Tryz.func42, Tryz.ntmps42
      go_wp2_with fail
      ((with_reducible refine (HGV.out _ (Below.refl _ _)).mono ?_); rintro e w1 ⟨rfl, hb1⟩)
      go_wp2_with fail
      ((with_reducible refine (HSM.out _ hb1).mono ?_); rintro e w2 ⟨rfl, hb2⟩)
      have hB2 := hb1.nx hb2
      go_wp2
      go_ret2
      exact ⟨rfl, hB2⟩
    | false =>
      have hEE := e2 hsm
      rw [hsm] at HSM
      obtain ⟨f1, f2, f3⟩ := St.farL_pair hsm
      have HFA := Lib.hid (fun W (h : Below w.heap.size w W) => r8Farthest_c ls W (S.later h) i3 (same_two i1 hsm) i2)
      have HAC := Lib.hid (fun W (h : Below w.heap.size w W) => rWide_c ls (St.at_ ls (St.farL ls).2.1) (St.at_ ls (St.farL ls).2.2) W (S.later h) i3 i1 i2 (St.at_in i3 (by omega)) (St.at_in i3 f2) f3)
      rw [hEE]
      refine S.cases _ ?_ ?_
      · rintro a cap rfl rfl
        simp at i1
      rintro b off cap rfl hp hR hb
      have HR := Lib.hid (fun (W : World) (h : Below w.heap.size w W) (k : Nat) (hk : k < ls.length) => (hR.later h hb).ptAt hk)
      generalize rtoa (St.wq (St.acr ls (St.at_ ls (St.farL ls).2.1) (St.at_ ls (St.farL ls).2.2)) (St.at_ ls (St.farL ls).2.1) (St.at_ ls (St.farL ls).2.2)) = T at *
      generalize St.farL ls = fp at *
      obtain ⟨fn, fi, fj⟩ := fp
      simp only at f1 f2 f3 HFA HAC
      clear hEE hsm h0 S e1 e2 hR f3
      have f0 : fi < ls.length := by omega
      go_enter Tryz.func42, Tryz.ntmps42
      go_wp2_with fail
      ((with_reducible refine (HGV.out _ (Below.refl _ _)).mono ?_); rintro e w1 ⟨rfl, hb1⟩)
      go_wp2_with fail
      ((with_reducible refine (HSM.out _ hb1).mono ?_); rintro e w2 ⟨rfl, hb2⟩)
      have hB2 := hb1.nx hb2
      go_wp2_with fail
      ((with_reducible refine (HFA.out _ hB2).mono ?_); rintro e w3 ⟨rfl, hb3⟩)
      have hB3 := hB2.nx hb3
      have hAl := below_al w3 (.cells #[.int .i64 (fi : Int), .int .i64 (fj : Int)] 47)
      have hB4 := hB3.nx hAl
      have hr0 : EnR w (w3.alloc (.cells #[.int .i64 (fi : Int), .int .i64 (fj : Int)] 47)) w3.heap.size b (off + fi * 2) (off + fj * 2) fi fj (St.at_ ls fi) (St.at_ ls fj) := ⟨heap_alloc_new w3 _, HR.out _ hB4 fi f0, HR.out _ hB4 fj f2, hB4⟩
      generalize St.at_ ls fi = p at *
      generalize St.at_ ls fj = q at *
      obtain ⟨px, py⟩ := p
      obtain ⟨qx, qy⟩ := q
      have HR0 := Lib.hid hr0
      clear hr0 hB2 hB3 hB4 hAl hb1 hb2 hb3 HGV HSM HFA
      go_wp2_with fail
      generalize w3.alloc (.cells #[.int .i64 (fi : Int), .int .i64 (fj : Int)] 47) = W4 at *
      generalize w3.heap.size = gp at *
      go_region_held3 (fun w' => w'.cell? ⟨gp, 0, none⟩ = some (.int .i64 (fi : Int)) ∧ w'.cell? ⟨gp, 1, none⟩ = some (.int .i64 (fj : Int)) ∧ w'.cell? ⟨b, off + fi * 2, none⟩ = some (.int .i64 px) ∧ w'.cell? ⟨b, off + fi * 2 + 1, none⟩ = some (.int .i64 py) ∧ w'.cell? ⟨b, off + fj * 2, none⟩ = some (.int .i64 qx) ∧ w'.cell? ⟨b, off + fj * 2 + 1, none⟩ = some (.int .i64 qy) ∧
          EnR w w' gp b (off + fi * 2) (off + fj * 2) fi fj ⟨px, py⟩ ⟨qx, qy⟩)
        (first | exact JJ.t | exact HR0.out.t | exact HR0.out.drew.t)
        (first
          | (go_at_call 56; (with_reducible refine (HAC.out _ ?_).mono ?_); (first | exact HR0.out.drew.w | exact HR0.out.w); rintro e w5 ⟨rfl, hb5⟩; (first | have JJ := HR0.out.drew.later hb5 | have JJ := HR0.out.later hb5))
          | fail)
      all_goals
        have hJ := JJ.w
        clear JJ
        go_wp2
        go_ret2
        exact ⟨rfl, hJ⟩
  · have hEE := endE_bad h0
    rw [hEE]
    generalize St.givP ls = E at *
    have z : (E != 0) = true := bne_iff_ne.2 h0
    obtain ⟨sa, cap, rfl⟩ := S.len
    clear hEE h0 S
    go_enter Tryz.func42, Tryz.ntmps42
    go_wp2_with fail
    ((with_reducible refine (HGV.out _ (Below.refl _ _)).mono ?_); rintro e w1 ⟨rfl, hb1⟩)
    go_wp2
    go_ret2
    exact ⟨rfl, hb1⟩
/-- What Across returns. -/
def acrE (ls : List St.Pt) (a b : St.Pt) : Txt × Int :=
  if St.givP ls = 0 then (if St.inB a = true ∧ St.inB b = true then (if a = b then ([], 10) else (rtoa (St.wq (St.acr ls a b) a b), 0)) else ([], 2)) else ([], St.givP ls)
theorem chk_two (a b : St.Pt) : St.chkP [a, b] = if St.inB a = true ∧ St.inB b = true then 0 else 2 := by
  unfold St.chkP
  simp only [List.length_cons, List.length_nil, List.all_cons, List.all_nil, Bool.and_true, Bool.and_eq_true]
  rfl
end Go.Proofs.Wk
/- STRAIGHTNESS: Across and Within, in the program and in the reference. -/
namespace Go.Proofs.Wk
open Go.RowKit Mt

theorem acrE_bad {ls : List St.Pt} {a b : St.Pt} (h : ¬ St.givP ls = 0) : acrE ls a b = ([], St.givP ls) := by unfold acrE; rw [if_neg h]
theorem acrE_out {ls : List St.Pt} {a b : St.Pt} (h : St.givP ls = 0) (h2 : ¬ (St.inB a = true ∧ St.inB b = true)) : acrE ls a b = ([], 2) := by unfold acrE; rw [if_pos h, if_neg h2]
theorem acrE_zero {ls : List St.Pt} {a : St.Pt} (h : St.givP ls = 0) (h2 : St.inB a = true) : acrE ls a a = ([], 10) := by unfold acrE; rw [if_pos h, if_pos ⟨h2, h2⟩, if_pos rfl]
theorem acrE_ok {ls : List St.Pt} {a b : St.Pt} (h : St.givP ls = 0) (h2 : St.inB a = true) (h3 : St.inB b = true) (h4 : a ≠ b) : acrE ls a b = (rtoa (St.wq (St.acr ls a b) a b), 0) := by unfold acrE; rw [if_pos h, if_pos ⟨h2, h3⟩, if_neg h4]
theorem sl2 (W : World) (a c : St.Pt) (t : TypeId) : SlX (W.alloc (.cells #[.int .i64 a.x, .int .i64 a.y, .int .i64 c.x, .int .i64 c.y] t)) (.slice (some ⟨W.heap.size, 0, none⟩) 2 2) [a, c] :=
  .inr ⟨W.heap.size, 0, 2, rfl, RX.lit W [a, c] t, by simp⟩
set_option maxRecDepth 100000 in
set_option maxHeartbeats 4000000 in
theorem Across_c {v : Value} (ls : List St.Pt) (a c : St.Pt) (w : World) (hg : Good w) (S : SlX w v ls) (hln : ls.length ≤ 140737488355328) : Calls Tryz.prog 18 #[v, ptV a, ptV c] w (Ret w (ans2 (acrE ls a c))) := by
  have HGV := Lib.hid (fun W (h : Below w.heap.size w W) => given_c ls W (S.later h) hln)
  have hx := Bx2.mk' w a c 37
  obtain ⟨sa, cap, hv⟩ := S.len
  by_cases h0 : St.givP ls = 0
  rotate_left
  · rw [acrE_bad h0]
    subst hv
    generalize St.givP ls = E at *
    have z : (E != 0) = true := bne_iff_ne.2 h0
    obtain ⟨ax, ay⟩ := a
    obtain ⟨cx, cy⟩ := c
    simp only at hx
    clear h0 S hg
    go_enter Tryz.func18, Tryz.ntmps18
    go_wp2_with fail
    generalize ((w.alloc (.cells #[.int .i64 ax, .int .i64 ay] 37)).alloc (.cells #[.int .i64 cx, .int .i64 cy] 37)) = W at *
    ((with_reducible refine (HGV.out _ hx.w).mono ?_); rintro e w1 ⟨rfl, hb1⟩)
    have hB := hx.w.nx hb1
    clear hx
    go_wp2
    go_ret2
    exact ⟨rfl, hB⟩
  obtain ⟨i1, i2, i3⟩ := St.givP_in h0
  have HCK := Lib.hid (fun W => by
    have := vCheck_c [a, c] _ (sl2 W a c 37) (by simp)
    rwa [chk_two] at this)
  have e1 := fun h => acrE_out (a := a) (b := c) h0 h
  have e2 := fun h3 h4 h5 => acrE_ok (a := a) (b := c) h0 h3 h4 h5
  have e3 := fun h => acrE_zero (a := a) h0 h
  rw [h0] at HGV
  by_cases hab : St.inB a = true ∧ St.inB c = true
  rotate_left
  · rw [e1 hab]
    rw [if_neg hab] at HCK
    subst hv
    obtain ⟨ax, ay⟩ := a
    obtain ⟨cx, cy⟩ := c
    simp only at hx
    clear h0 S hg hab e1 e2 e3
    go_enter Tryz.func18, Tryz.ntmps18
    go_wp2_with fail
    generalize ((w.alloc (.cells #[.int .i64 ax, .int .i64 ay] 37)).alloc (.cells #[.int .i64 cx, .int .i64 cy] 37)) = W at *
    ((with_reducible refine (HGV.out _ hx.w).mono ?_); rintro e w1 ⟨rfl, hb1⟩)
    have hx1 := hx.later hb1
    obtain ⟨c0, c1, c2, c3, -⟩ := hx1.s
    clear hx
    go_wp2_with fail
    ((with_reducible refine (HCK.out _).mono ?_); rintro e w2 ⟨rfl, hb2⟩)
    have hB := (hx1.w.nx (below_al w1 _)).nx hb2
    clear hx1 c0 c1 c2 c3
    go_wp2
    go_ret2
    exact ⟨rfl, hB⟩
  obtain ⟨ha, hc⟩ := hab
  rw [if_pos ⟨ha, hc⟩] at HCK
  by_cases hac : a = c
  · subst hac
    rw [e3 ha]
    subst hv
    obtain ⟨ax, ay⟩ := a
    have pe := fun W => pt_eql ax ay ax ay W
    rw [show (ax == ax && ay == ay) = true by simp] at pe
    simp only at hx
    clear h0 S hg e1 e2 e3
    go_enter Tryz.func18, Tryz.ntmps18
    go_wp2_with fail
    generalize ((w.alloc (.cells #[.int .i64 ax, .int .i64 ay] 37)).alloc (.cells #[.int .i64 ax, .int .i64 ay] 37)) = W at *
    ((with_reducible refine (HGV.out _ hx.w).mono ?_); rintro e w1 ⟨rfl, hb1⟩)
    have hx1 := hx.later hb1
    obtain ⟨c0, c1, c2, c3, -⟩ := hx1.s
    clear hx
    go_wp2_with fail
    ((with_reducible refine (HCK.out _).mono ?_); rintro e w2 ⟨rfl, hb2⟩)
    have hx2 := (hx1.later (below_al w1 _)).later hb2
    obtain ⟨c0, c1, c2, c3, -⟩ := hx2.s
    have hB := hx2.w
    clear hx1 hx2
    go_wp2
    go_ret2
    exact ⟨rfl, hB⟩
  · rw [e2 ha hc hac]
    have HAC := Lib.hid (fun W (h : Below w.heap.size w W) => across_c ls a c W (hg.later h) (S.later h) i3 i1 i2 (St.inB_iff.1 ha) (St.inB_iff.1 hc) hac)
    have hpb := pt_beq a c
    rw [decide_eq_false hac] at hpb
    generalize rtoa (St.wq (St.acr ls a c) a c) = T at *
    subst hv
    obtain ⟨ax, ay⟩ := a
    obtain ⟨cx, cy⟩ := c
    have pe := fun W => pt_eql ax ay cx cy W
    simp only at hx hpb
    rw [hpb] at pe
    clear h0 S hg e1 e2 e3 hac ha hc hpb
    go_enter Tryz.func18, Tryz.ntmps18
    go_wp2_with fail
    generalize ((w.alloc (.cells #[.int .i64 ax, .int .i64 ay] 37)).alloc (.cells #[.int .i64 cx, .int .i64 cy] 37)) = W at *
    ((with_reducible refine (HGV.out _ hx.w).mono ?_); rintro e w1 ⟨rfl, hb1⟩)
    have hx1 := hx.later hb1
    obtain ⟨c0, c1, c2, c3, -⟩ := hx1.s
    clear hx
    go_wp2_with fail
    ((with_reducible refine (HCK.out _).mono ?_); rintro e w2 ⟨rfl, hb2⟩)
    have hx2 := (hx1.later (below_al w1 _)).later hb2
    obtain ⟨c0, c1, c2, c3, -⟩ := hx2.s
    clear hx1
    go_wp2_with fail
    ((with_reducible refine (HAC.out _ hx2.w).mono ?_); rintro e w3 ⟨rfl, hb3⟩)
    have hB := hx2.w.nx hb3
    clear hx2 c0 c1 c2 c3
    go_wp2
    go_ret2
    exact ⟨rfl, hB⟩
set_option maxRecDepth 100000 in
set_option maxHeartbeats 4000000 in
theorem rAcross_c {v : Value} (ls : List St.Pt) (a c : St.Pt) (w : World) (S : SlX w v ls) (hln : ls.length ≤ 140737488355328) : Calls Tryz.prog 19 #[v, ptV a, ptV c] w (Ret w (ans2 (acrE ls a c))) := by
  have HGV := Lib.hid (fun W (h : Below w.heap.size w W) => rGiven_c ls W (S.later h) hln)
  have hx := Bx2.mk' w a c 37
  obtain ⟨sa, cap, hv⟩ := S.len
  by_cases h0 : St.givP ls = 0
  rotate_left
  · rw [acrE_bad h0]
    subst hv
    generalize St.givP ls = E at *
    have z : (E != 0) = true := bne_iff_ne.2 h0
    obtain ⟨ax, ay⟩ := a
    obtain ⟨cx, cy⟩ := c
    simp only at hx
    clear h0 S
    go_enter Tryz.func19, Tryz.ntmps19
    go_wp2_with fail
    generalize ((w.alloc (.cells #[.int .i64 ax, .int .i64 ay] 37)).alloc (.cells #[.int .i64 cx, .int .i64 cy] 37)) = W at *
    ((with_reducible refine (HGV.out _ hx.w).mono ?_); rintro e w1 ⟨rfl, hb1⟩)
    have hB := hx.w.nx hb1
    clear hx
    go_wp2
    go_ret2
    exact ⟨rfl, hB⟩
  obtain ⟨i1, i2, i3⟩ := St.givP_in h0
  have HRA := Lib.hid (fun W => rRight_p a W)
  have HRC := Lib.hid (fun W => rRight_p c W)
  have e1 := fun h => acrE_out (a := a) (b := c) h0 h
  have e2 := fun h3 h4 h5 => acrE_ok (a := a) (b := c) h0 h3 h4 h5
  have e3 := fun h => acrE_zero (a := a) h0 h
  rw [h0] at HGV
  cases ha : St.inB a with
  | false =>
    rw [e1 (by rw [ha]; simp)]
    rw [ha] at HRA
    subst hv
    obtain ⟨ax, ay⟩ := a
    obtain ⟨cx, cy⟩ := c
    simp only at hx
    clear h0 S e1 e2 e3
    go_enter Tryz.func19, Tryz.ntmps19
    go_wp2_with fail
    generalize ((w.alloc (.cells #[.int .i64 ax, .int .i64 ay] 37)).alloc (.cells #[.int .i64 cx, .int .i64 cy] 37)) = W at *
    ((with_reducible refine (HGV.out _ hx.w).mono ?_); rintro e w1 ⟨rfl, hb1⟩)
    have hx1 := hx.later hb1
    obtain ⟨c0, c1, c2, c3, -⟩ := hx1.s
    clear hx
    go_wp2_with fail
    ((with_reducible refine (HRA.out _).mono ?_); rintro e w2 ⟨rfl, hb2⟩)
    have hB := hx1.w.nx hb2
    clear hx1 c0 c1 c2 c3
    go_wp2
    go_ret2
    exact ⟨rfl, hB⟩
  | true =>
    rw [ha] at HRA
    cases hc : St.inB c with
    | false =>
      rw [e1 (by rw [hc]; simp)]
      rw [hc] at HRC
      subst hv
      obtain ⟨ax, ay⟩ := a
      obtain ⟨cx, cy⟩ := c
      simp only at hx
      clear h0 S e1 e2 e3
      go_enter Tryz.func19, Tryz.ntmps19
      go_wp2_with fail
      generalize ((w.alloc (.cells #[.int .i64 ax, .int .i64 ay] 37)).alloc (.cells #[.int .i64 cx, .int .i64 cy] 37)) = W at *
      ((with_reducible refine (HGV.out _ hx.w).mono ?_); rintro e w1 ⟨rfl, hb1⟩)
      have hx1 := hx.later hb1
      obtain ⟨c0, c1, c2, c3, -⟩ := hx1.s
      clear hx
      go_wp2_with fail
      ((with_reducible refine (HRA.out _).mono ?_); rintro e w2 ⟨rfl, hb2⟩)
      have hx2 := hx1.later hb2
      obtain ⟨c0, c1, c2, c3, -⟩ := hx2.s
      clear hx1
      go_wp2_with fail
      ((with_reducible refine (HRC.out _).mono ?_); rintro e w3 ⟨rfl, hb3⟩)
      have hB := hx2.w.nx hb3
      clear hx2 c0 c1 c2 c3
      go_wp2
      go_ret2
      exact ⟨rfl, hB⟩
    | true =>
      rw [hc] at HRC
      by_cases hac : a = c
      · subst hac
        rw [e3 ha]
        subst hv
        obtain ⟨ax, ay⟩ := a
        have pe := fun W => pt_eql ax ay ax ay W
        rw [show (ax == ax && ay == ay) = true by simp] at pe
        simp only at hx
        clear h0 S e1 e2 e3
        go_enter Tryz.func19, Tryz.ntmps19
        go_wp2_with fail
        generalize ((w.alloc (.cells #[.int .i64 ax, .int .i64 ay] 37)).alloc (.cells #[.int .i64 ax, .int .i64 ay] 37)) = W at *
        ((with_reducible refine (HGV.out _ hx.w).mono ?_); rintro e w1 ⟨rfl, hb1⟩)
        have hx1 := hx.later hb1
        obtain ⟨c0, c1, c2, c3, -⟩ := hx1.s
        clear hx
        go_wp2_with fail
        ((with_reducible refine (HRA.out _).mono ?_); rintro e w2 ⟨rfl, hb2⟩)
        have hx2 := hx1.later hb2
        obtain ⟨c0, c1, c2, c3, -⟩ := hx2.s
        clear hx1
        go_wp2_with fail
        ((with_reducible refine (HRC.out _).mono ?_); rintro e w3 ⟨rfl, hb3⟩)
        have hx3 := hx2.later hb3
        obtain ⟨c0, c1, c2, c3, -⟩ := hx3.s
        have hB := hx3.w
        clear hx2 hx3
        go_wp2
        go_ret2
        exact ⟨rfl, hB⟩
      · rw [e2 ha hc hac]
        have HAC := Lib.hid (fun W (h : Below w.heap.size w W) => rWide_c ls a c W (S.later h) i3 i1 i2 (St.inB_iff.1 ha) (St.inB_iff.1 hc) hac)
        have hpb := pt_beq a c
        rw [decide_eq_false hac] at hpb
        generalize rtoa (St.wq (St.acr ls a c) a c) = T at *
        subst hv
        obtain ⟨ax, ay⟩ := a
        obtain ⟨cx, cy⟩ := c
        have pe := fun W => pt_eql ax ay cx cy W
        simp only at hx hpb
        rw [hpb] at pe
        clear h0 S e1 e2 e3 hac ha hc hpb
        go_enter Tryz.func19, Tryz.ntmps19
        go_wp2_with fail
        generalize ((w.alloc (.cells #[.int .i64 ax, .int .i64 ay] 37)).alloc (.cells #[.int .i64 cx, .int .i64 cy] 37)) = W at *
        ((with_reducible refine (HGV.out _ hx.w).mono ?_); rintro e w1 ⟨rfl, hb1⟩)
        have hx1 := hx.later hb1
        obtain ⟨c0, c1, c2, c3, -⟩ := hx1.s
        clear hx
        go_wp2_with fail
        ((with_reducible refine (HRA.out _).mono ?_); rintro e w2 ⟨rfl, hb2⟩)
        have hx2 := hx1.later hb2
        obtain ⟨c0, c1, c2, c3, -⟩ := hx2.s
        clear hx1
        go_wp2_with fail
        ((with_reducible refine (HRC.out _).mono ?_); rintro e w3 ⟨rfl, hb3⟩)
        have hx3 := hx2.later hb3
        obtain ⟨c0, c1, c2, c3, -⟩ := hx3.s
        clear hx2
        go_wp2_with fail
        ((with_reducible refine (HAC.out _ hx3.w).mono ?_); rintro e w4 ⟨rfl, hb4⟩)
        have hB := hx3.w.nx hb4
        clear hx3 c0 c1 c2 c3
        go_wp2
        go_ret2
        exact ⟨rfl, hB⟩
end Go.Proofs.Wk
