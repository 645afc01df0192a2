/- STRAIGHTNESS: the reference's least width. -/
import Derived.Test.YtjopphkhpmoedaaGreatDoorNF
import Derived.RegionTactic
import Derived.ChangeAlike
namespace Go.Proofs.Wk
open Go.RowKit Mt

theorem prf_bd {ls : List St.Pt} (hin : ∀ p ∈ ls, St.InP p) {i j : Nat} (hi : i < ls.length) (hj : j < ls.length) : 0 ≤ (St.prf ls i j).area ∧ (St.prf ls i j).area ≤ 80000000000 := by
  obtain ⟨h1, -, h3⟩ := St.prf_area ls i j
  refine ⟨h1, ?_⟩
  rcases h3 with ⟨e, -⟩ | ⟨hm, e⟩
  · omega
  · have := (St.left_bd (St.at_in hin hi) (St.at_in hin hj) (St.at_in hin hm)).2.2
    omega
theorem prf_sz {ls : List St.Pt} (hin : ∀ p ∈ ls, St.InP p) {i j : Nat} (hi : i < ls.length) (hj : j < ls.length) (hok : St.okP ls i j = true) : szQ (St.wv ls (St.prf ls i j)) 24 :=
  wq_szQ (by have := prf_bd hin hi hj; omega) (by have := (St.far_bd (St.at_in hin hi) (St.at_in hin hj)).2.2; exact this.2) (St.okP_ne hok)
/-- The best width till now: its number, its pair, its farthest point. -/
def bsQ (ls : List St.Pt) : Option St.Prf → Rat | none => 0 | some x => St.wv ls x
def bsI : Option St.Prf → Nat | none => 0 | some x => x.i
def bsJ : Option St.Prf → Nat | none => 0 | some x => x.j
def bsF : Option St.Prf → Nat | none => 0 | some x => x.far
theorem bet_yes {ls : List St.Pt} {s : Option St.Prf} {x : St.Prf} (h : s = none ∨ St.wv ls x < bsQ ls s) : St.bet ls s x = some x := by
  cases s with
  | none => rfl
  | some y =>
    rcases h with h | h
    · cases h
    · exact if_pos h
theorem bet_no {ls : List St.Pt} {s : Option St.Prf} {x : St.Prf} (h : s.isSome = true) (h2 : ¬ St.wv ls x < bsQ ls s) : St.bet ls s x = s := by
  cases s with
  | none => cases h
  | some y => exact if_neg h2
structure LsR (w W : World) (i j : Nat) : Prop where
  r : W.heap[w.heap.size]? = some (.cells #[.int .i64 0, .int .i64 0] 47 (0, 0))
  o : W.heap[w.heap.size + 1]? = some (.cells #[.int .i64 (i : Int), .int .i64 (j : Int)] 47 (0, 0))
  w : Below w.heap.size w W
theorem LsR.later {w W W' : World} {i j : Nat} (h : LsR w W i j) (hb : Below W.heap.size W W') : LsR w W' i j :=
  ⟨by rw [hb.block _ (Array.getElem?_eq_some_iff.1 h.r).1]; exact h.r, by rw [hb.block _ (Array.getElem?_eq_some_iff.1 h.o).1]; exact h.o, h.w.nx hb⟩
theorem LsR.drew {w W : World} {i j : Nat} (h : LsR w W i j) : LsR w W.drew i j := ⟨h.r, h.o, h.w.drew⟩
theorem LsR.new (w : World) : LsR w ((w.alloc (.cells #[.int .i64 0, .int .i64 0] 47)).alloc (.cells #[.int .i64 0, .int .i64 0] 47)) 0 0 :=
  ⟨by rw [heap_alloc_old _ _ (by rw [World.size_alloc]; omega)]; exact heap_alloc_new w _, new2 w _ _, bx2 w _ _⟩
theorem LsR.put {w W : World} {i j : Nat} (h : LsR w W i j) (i' j' : Nat) : LsR w ((W.setCell ⟨w.heap.size + 1, 0, none⟩ (.int .i64 (i' : Int))).setCell ⟨w.heap.size + 1, 1, none⟩ (.int .i64 (j' : Int))) i' j' :=
  ⟨(o2row (show w.heap.size ≠ w.heap.size + 1 by omega)).trans h.r, s2row h.o, b2row h.w (by omega)⟩
/-- Two points in a row, beside the state. -/
structure P2R (w W : World) (b o1 o2 : Nat) (a c : St.Pt) (i j : Nat) : Prop where
  a : PtAt W b o1 a
  c : PtAt W b o2 c
  s : LsR w W i j
theorem P2R.later {w W W' : World} {b o1 o2 : Nat} {a c : St.Pt} {i j : Nat} (h : P2R w W b o1 o2 a c i j) (hb : Below W.heap.size W W') : P2R w W' b o1 o2 a c i j := ⟨h.a.later hb, h.c.later hb, h.s.later hb⟩
theorem P2R.drew {w W : World} {b o1 o2 : Nat} {a c : St.Pt} {i j : Nat} (h : P2R w W b o1 o2 a c i j) : P2R w W.drew b o1 o2 a c i j := ⟨h.a.drew, h.c.drew, h.s.drew⟩
theorem P2R.t {w W : World} {b o1 o2 : Nat} {ax ay cx cy : Int} {i j : Nat} (h : P2R w W b o1 o2 ⟨ax, ay⟩ ⟨cx, cy⟩ i j) :
    W.cell? ⟨b, o1, none⟩ = some (.int .i64 ax) ∧ W.cell? ⟨b, o1 + 1, none⟩ = some (.int .i64 ay) ∧ W.cell? ⟨b, o2, none⟩ = some (.int .i64 cx) ∧ W.cell? ⟨b, o2 + 1, none⟩ = some (.int .i64 cy) ∧ P2R w W b o1 o2 ⟨ax, ay⟩ ⟨cx, cy⟩ i j :=
  ⟨h.a.c0, h.a.c1, h.c.c0, h.c.c1, h⟩
set_option maxRecDepth 100000 in
set_option maxHeartbeats 4000000 in
theorem rLeast_c {v : Value} (ls : List St.Pt) (w : World) (S : SlX w v ls) (hin : ∀ p ∈ ls, St.InP p) (h0 : 0 < ls.length) (hn : ls.length ≤ 64) :
    Calls Tryz.prog 81 #[v] w (Ret w (.tuple #[.string ⟨(rtoa (bsQ ls (St.least ls))).toArray⟩, .agg #[.int .i64 (bsI (St.least ls) : Int), .int .i64 (bsJ (St.least ls) : Int)], .int .i64 (bsF (St.least ls) : Int)])) := by
  refine S.cases _ ?_ ?_
  · rintro a cap rfl rfl
    simp at h0
  rintro b off cap rfl hp hR hb
  have hE : St.allB ls 0 none = St.least ls := rfl
  generalize St.least ls = E at *
  have HSUP := Lib.hid (fun (i j : Nat) (hi : i < ls.length) (hj : j < ls.length) (W : World) (h : Below w.heap.size w W) => rSupports_c ls i j W (S.later h) hin hi hj hn)
  have HFAR := Lib.hid (show ∀ (i j : Nat) (hi : i < ls.length) (hj : j < ls.length), St.okP ls i j = true → ∀ (W : World), Below w.heap.size w W → Calls Tryz.prog 118 #[.slice (some ⟨b, off, none⟩) ls.length cap, ptV (St.at_ ls i), ptV (St.at_ ls j)] W
      (Ret W (.tuple #[.string ⟨(rtoa (St.wv ls (St.prf ls i j))).toArray⟩, .int .i64 ((St.prf ls i j).far : Int)])) from fun i j hi hj hok W h => by
    have := rFarthest_c ls (St.at_ ls i) (St.at_ ls j) W (S.later h) hin h0 (St.at_in hin hi) (St.at_in hin hj) (St.okP_ne hok) hn
    rwa [St.farthest_eq (St.okP_ne hok)] at this)
  have HSZ := Lib.hid (fun (i j : Nat) (hi : i < ls.length) (hj : j < ls.length) (hok : St.okP ls i j = true) => prf_sz hin hi hj hok)
  have HR := Lib.hid (fun (W : World) (h : Below w.heap.size w W) => hR.later h hb)
  have HE := Lib.hid hE
  have HX := Lib.hid (LsR.new w)
  clear hR hE hin S
  go_enter Tryz.func81, Tryz.ntmps81
  go_wp2_with fail
  generalize ((w.alloc (.cells #[.int .i64 0, .int .i64 0] 47)).alloc (.cells #[.int .i64 0, .int .i64 0] 47)) = W0 at *
  go_loopw [5, 7, 8, 9] (fun sq sf sd si wr => ∃ (i : Nat) (s : Option St.Prf), sq = .string ⟨(rtoa (bsQ ls s)).toArray⟩ ∧ sf = .int .i64 (bsF s : Int) ∧ sd = .bool s.isSome ∧ si = .int .i64 (i : Int) ∧ i ≤ ls.length ∧ Hid (St.allB ls i s = E) ∧ Hid (szQ (bsQ ls s) 24) ∧ Hid (LsR w wr (bsI s) (bsJ s)))
    (fun _ _ _ si _ => ls.length - (intOf si).toNat)
  case atStart => exact ⟨0, none, by rw [show bsQ ls none = 0 from rfl, rtoa_zero], rfl, rfl, rfl, Nat.zero_le _, HE.out, szQ_zero.mono (by decide), HX.out⟩
  case round =>
    obtain ⟨i, s, rfl, rfl, rfl, rfl, hi, hs, hq, hI⟩ := hrel
    by_cases hlt : i < ls.length
    · have hst := hs.out
      rw [St.allB_step hlt] at hst
      have HST := Lib.hid hst
      clear hst hs
      go_wp2_with fail
      go_loopw [5, 7, 8, 10] (fun sq sf sd sj wr => ∃ (j : Nat) (s : Option St.Prf), sq = .string ⟨(rtoa (bsQ ls s)).toArray⟩ ∧ sf = .int .i64 (bsF s : Int) ∧ sd = .bool s.isSome ∧ sj = .int .i64 (j : Int) ∧ i < j ∧ j ≤ ls.length ∧ Hid (St.allB ls (i + 1) (St.rowB ls i j s) = E) ∧ Hid (szQ (bsQ ls s) 24) ∧ Hid (LsR w wr (bsI s) (bsJ s)))
        (fun _ _ _ sj _ => ls.length - (intOf sj).toNat)
      case atStart => exact ⟨i + 1, s, rfl, rfl, rfl, by go_num, by omega, by omega, HST.out, hq.out, hI.out⟩
      case round =>
        clear HST hq hI
        obtain ⟨j, s2, rfl, rfl, rfl, rfl, hij, hj, hs2, hq2, hI2⟩ := hrel
        by_cases hlt2 : j < ls.length
        · have hst2 := hs2.out
          rw [St.rowB_step hlt2] at hst2
          have HSP := Lib.hid (HSUP.out i j hlt hlt2)
          have HFR := Lib.hid (HFAR.out i j hlt hlt2)
          have HSZ2 := Lib.hid (HSZ.out i j hlt hlt2)
          generalize hT : rtoa (bsQ ls s2) = T at *
          have HT := Lib.hid hT
          clear hT hs2
          cases hok : St.okP ls i j with
          | false =>
            rw [hok] at HSP hst2
            have HST2 := Lib.hid (show St.allB ls (i + 1) (St.rowB ls i (j + 1) s2) = E from hst2)
            clear hst2 hok HSZ2 HFR
            go_wp2_with fail
            ((with_reducible refine (HSP.out _ hI2.out.w).mono ?_); rintro e w1 ⟨rfl, hb1⟩)
            have HI3 := Lib.hid (hI2.out.later hb1)
            clear hI2
            go_wp2
            go_roundw
            case rel => exact ⟨j + 1, s2, by rw [HT.out], rfl, rfl, by go_num, by omega, by omega, HST2.out, hq2.out, HI3.out⟩
            case measure => simp [intOf]; omega
          | true =>
            rw [hok] at HSP hst2
            have hfr := HFR.out hok
            have hsz := HSZ2.out hok
            have HST2 := Lib.hid (show St.allB ls (i + 1) (St.rowB ls i (j + 1) (St.bet ls s2 (St.prf ls i j))) = E from hst2)
            have hby := @bet_yes ls s2 (St.prf ls i j)
            have hbn := @bet_no ls s2 (St.prf ls i j)
            have hO := fun W => Order_q (St.wv ls (St.prf ls i j)) (bsQ ls s2) W (hsz.mono (by decide)) (hq2.out.mono (by decide))
            have hcl := cmpQ_lt (St.wv ls (St.prf ls i j)) (bsQ ls s2)
            have hij2 : (St.prf ls i j).i = i ∧ (St.prf ls i j).j = j := ⟨rfl, rfl⟩
            generalize cmpQ (St.wv ls (St.prf ls i j)) (bsQ ls s2) = o at *
            rw [HT.out] at hO
            generalize St.prf ls i j = x at *
            generalize hT2 : rtoa (St.wv ls x) = T2 at *
            have HT2 := Lib.hid hT2
            have HFR2 := Lib.hid hfr
            have HSZ3 := Lib.hid hsz
            have HBY := Lib.hid hby
            have HBN := Lib.hid hbn
            have HO := Lib.hid hO
            have HCL := Lib.hid hcl
            have HIJ := Lib.hid hij2
            clear hst2 hok HSZ2 HFR hT2 hfr hsz hby hbn hO hcl hij2
            obtain ⟨xi, xj, xa, xf⟩ := x
            go_wp2_with fail
            ((with_reducible refine (HSP.out _ hI2.out.w).mono ?_); rintro e w1 ⟨rfl, hb1⟩)
            have HI3 := Lib.hid (hI2.out.later hb1)
            clear hI2 HSP
            have hr0 : P2R w w1 b (off + i * 2) (off + j * 2) (St.at_ ls i) (St.at_ ls j) (bsI s2) (bsJ s2) := ⟨(HR.out _ HI3.out.w).ptAt hlt, (HR.out _ HI3.out.w).ptAt hlt2, HI3.out⟩
            generalize St.at_ ls i = a at *
            generalize St.at_ ls j = c at *
            obtain ⟨ax, ay⟩ := a
            obtain ⟨cx, cy⟩ := c
            generalize hbi : bsI s2 = bi at *
            generalize hbj : bsJ s2 = bj at *
            have HBI := Lib.hid hbi
            have HBJ := Lib.hid hbj
            clear hbi hbj
            have HR0 := Lib.hid hr0
            clear hr0
            go_wp2_with fail
            go_region_held3 (fun w' => w'.cell? ⟨b, off + i * 2, none⟩ = some (.int .i64 ax) ∧ w'.cell? ⟨b, off + i * 2 + 1, none⟩ = some (.int .i64 ay) ∧ w'.cell? ⟨b, off + j * 2, none⟩ = some (.int .i64 cx) ∧ w'.cell? ⟨b, off + j * 2 + 1, none⟩ = some (.int .i64 cy) ∧
                P2R w w' b (off + i * 2) (off + j * 2) ⟨ax, ay⟩ ⟨cx, cy⟩ bi bj)
              (first | exact JJ.t | exact HR0.out.t | exact HR0.out.drew.t)
              (first
                | (go_at_call 118; (with_reducible refine (HFR2.out _ ?_).mono ?_); (first | exact HR0.out.drew.s.w | exact HR0.out.s.w); rintro e w2 ⟨rfl, hb2⟩; (first | have JJ := HR0.out.drew.later hb2 | have JJ := HR0.out.later hb2))
                | fail)
            all_goals
              have HJ := Lib.hid JJ
              clear JJ HR0
              obtain ⟨d0, d1⟩ := c2row HJ.out.s.o
              have hf := fun k => free_row HJ.out.s.o k
              obtain ⟨rfl, rfl⟩ := HIJ.out
              rcases s2 with _ | y
              · have HE3 := Lib.hid (show St.allB ls (xi + 1) (St.rowB ls xi (xj + 1) (some ⟨xi, xj, xa, xf⟩)) = E by rw [← HBY.out (.inl rfl)]; exact HST2.out)
                clear HBY HBN HST2 HCL HO
                go_wp2
                go_roundw
                case rel => exact ⟨xj + 1, some ⟨xi, xj, xa, xf⟩, by rw [← HT2.out]; rfl, rfl, rfl, by go_num, by omega, by omega, HE3.out, HSZ3.out, HJ.out.s.put _ _⟩
                case measure => simp [intOf]; omega
              · go_wp2_with fail
                ((with_reducible refine (HO.out _).mono ?_); rintro e w3 ⟨rfl, hb3⟩)
                have HK := Lib.hid (HJ.out.s.later hb3)
                obtain ⟨d0, d1⟩ := c2row HK.out.o
                have hf := fun k => free_row HK.out.o k
                have hcl := HCL.out
                rcases Int.lt_or_le o 0 with ho | ho
                · rw [decide_eq_true ho] at hcl
                  have HE3 := Lib.hid (show St.allB ls (xi + 1) (St.rowB ls xi (xj + 1) (some ⟨xi, xj, xa, xf⟩)) = E by rw [← HBY.out (.inr (of_decide_eq_true hcl.symm))]; exact HST2.out)
                  clear HBY HBN HST2 HCL HO hcl
                  go_wp2
                  go_roundw
                  case rel => exact ⟨xj + 1, some ⟨xi, xj, xa, xf⟩, by rw [← HT2.out]; rfl, rfl, rfl, by go_num, by omega, by omega, HE3.out, HSZ3.out, HK.out.put _ _⟩
                  case measure => simp [intOf]; omega
                · rw [decide_eq_false (by omega)] at hcl
                  have HE3 := Lib.hid (show St.allB ls (xi + 1) (St.rowB ls xi (xj + 1) (some y)) = E by rw [← HBN.out rfl (of_decide_eq_false hcl.symm)]; exact HST2.out)
                  clear HBY HBN HST2 HCL HO hcl
                  go_wp2
                  go_roundw
                  case rel => exact ⟨xj + 1, some y, by rw [HT.out], rfl, rfl, by go_num, by omega, by omega, HE3.out, hq2.out, by rw [HBI.out, HBJ.out]; exact HK.out⟩
                  case measure => simp [intOf]; omega
        · obtain rfl : j = ls.length := by omega
          have hs2 := hs2.out
          rw [St.rowB_end (Nat.le_refl _)] at hs2
          have HS2 := Lib.hid hs2
          clear hs2
          go_wp2
          go_roundw
          case rel => exact ⟨i + 1, s2, rfl, rfl, rfl, by go_num, by omega, HS2.out, hq2.out, hI2.out⟩
          case measure => simp [intOf]; omega
    · obtain rfl : i = ls.length := by omega
      have hs := hs.out
      rw [St.allB_end (Nat.le_refl _)] at hs
      subst hs
      obtain ⟨d0, d1⟩ := c2row hI.out.o
      obtain ⟨e0, e1⟩ := c2row hI.out.r
      have hf := fun k => free_row hI.out.r k
      have HI := Lib.hid hI.out
      clear hI HE HX
      generalize rtoa (bsQ ls s) = T at *
      generalize bsI s = bi at *
      generalize bsJ s = bj at *
      generalize bsF s = bf at *
      go_wp2_with fail
      go_region
      all_goals
        go_wp2
        refine bodyPost_ret (res_tct rfl (by kernel_rfl) (s2rowd HI.out.r) Tryz.underlying47 rfl (by kernel_rfl) rfl rfl) rfl ?_
        exact ⟨rfl, (b2row HI.out.w (Nat.le_refl _)).drew⟩
end Go.Proofs.Wk
/- STRAIGHTNESS: the better of two proofs. -/
namespace Go.Proofs.Wk
open Go.RowKit Mt

/-- Only two blocks may have changed. -/
structure Sv2 (g1 g2 : Nat) (W W' : World) : Prop where
  os : W'.os = W.os
  tape : W'.tape = W.tape
  output : W'.output = W.output
  size : W.heap.size ≤ W'.heap.size
  block : ∀ k, k < W.heap.size → k ≠ g1 → k ≠ g2 → W'.heap[k]? = W.heap[k]?
theorem Sv2.of {g1 g2 : Nat} {W W' : World} (h : Below W.heap.size W W') : Sv2 g1 g2 W W' := ⟨h.os, h.tape, h.output, h.size, fun k hk _ _ => h.block k hk⟩
theorem Sv2.set1 {g1 g2 : Nat} {W W' : World} (h : Sv2 g1 g2 W W') (j : Nat) (v : Value) : Sv2 g1 g2 W (W'.setCell ⟨g1, j, none⟩ v) :=
  ⟨h.os, h.tape, h.output, by rw [show (W'.setCell ⟨g1, j, none⟩ v).heap.size = W'.heap.size by simp [World.setCell]]; exact h.size, fun k hk h1 h2 => (heap_setCell_other _ _ _ _ h1).trans (h.block k hk h1 h2)⟩
theorem Sv2.set2 {g1 g2 : Nat} {W W' : World} (h : Sv2 g1 g2 W W') (j : Nat) (v : Value) : Sv2 g1 g2 W (W'.setCell ⟨g2, j, none⟩ v) :=
  ⟨h.os, h.tape, h.output, by rw [show (W'.setCell ⟨g2, j, none⟩ v).heap.size = W'.heap.size by simp [World.setCell]]; exact h.size, fun k hk h1 h2 => (heap_setCell_other _ _ _ _ h2).trans (h.block k hk h1 h2)⟩
theorem Sv2.drew {g1 g2 : Nat} {W W' : World} (h : Sv2 g1 g2 W W') : Sv2 g1 g2 W W'.drew := ⟨h.os, h.tape, h.output, h.size, h.block⟩
theorem rtoa_nn (q : Rat) : rtoa q ≠ [] := by
  unfold rtoa
  split
  · exact itoa_ne_nil _
  · simp
/-- The best proof till now, as it lies in memory. -/
def stT (ls : List St.Pt) : Option St.Prf → Txt | none => [] | some x => rtoa (St.wv ls x)
def stP : Option St.Prf → St.Prf | none => ⟨0, 0, 0, 0⟩ | some x => x
structure BsM (bl g1 g2 : Nat) (v : Value) (t : Txt) (p : St.Prf) (W : World) : Prop where
  l : W.heap[bl]? = some (.cells #[v] 22 (0, 0))
  b : W.heap[g1]? = some (.cells #[.string ⟨t.toArray⟩] 39 (0, 0))
  o : W.heap[g2]? = some (.cells (prfC p) 88 (0, 0))
theorem BsM.later {bl g1 g2 : Nat} {v : Value} {t : Txt} {p : St.Prf} {W W' : World} (h : BsM bl g1 g2 v t p W) (hb : Below W.heap.size W W') : BsM bl g1 g2 v t p W' :=
  ⟨by rw [hb.block _ (Array.getElem?_eq_some_iff.1 h.l).1]; exact h.l, by rw [hb.block _ (Array.getElem?_eq_some_iff.1 h.b).1]; exact h.b, by rw [hb.block _ (Array.getElem?_eq_some_iff.1 h.o).1]; exact h.o⟩
theorem BsM.drew {bl g1 g2 : Nat} {v : Value} {t : Txt} {p : St.Prf} {W : World} (h : BsM bl g1 g2 v t p W) : BsM bl g1 g2 v t p W.drew := ⟨h.l, h.b, h.o⟩
/-- A proof that may be asked. -/
structure OkX (ls : List St.Pt) (x : St.Prf) : Prop where
  i : x.i < ls.length
  j : x.j < ls.length
  ne : St.at_ ls x.i ≠ St.at_ ls x.j
  area : 0 ≤ x.area ∧ x.area ≤ 80000000000
theorem OkX.sz {ls : List St.Pt} {x : St.Prf} (hin : ∀ p ∈ ls, St.InP p) (h : OkX ls x) : szQ (St.wv ls x) 24 :=
  wq_szQ (by have := h.area; omega) (by have := (St.far_bd (St.at_in hin h.i) (St.at_in hin h.j)).2.2; exact this.2) h.ne
theorem okX_prf {ls : List St.Pt} (hin : ∀ p ∈ ls, St.InP p) {i j : Nat} (hi : i < ls.length) (hj : j < ls.length) (h : St.okP ls i j = true) : OkX ls (St.prf ls i j) := ⟨hi, hj, St.okP_ne h, prf_bd hin hi hj⟩
def BtP (bl g1 g2 : Nat) (v : Value) (t : Txt) (p : St.Prf) (W : World) (e : Ending) (W' : World) : Prop := (∃ v, e = .returned v) ∧ BsM bl g1 g2 v t p W' ∧ Sv2 g1 g2 W W'
theorem BsM.put {bl g1 g2 : Nat} {v : Value} {t : Txt} {p : St.Prf} {W W2 : World} (h : BsM bl g1 g2 v t p W2) (hs : Sv2 g1 g2 W W2) (h1 : bl ≠ g1) (h2 : bl ≠ g2) (h3 : g1 ≠ g2) (t' : Txt) (p' : St.Prf) :
    (BsM bl g1 g2 v t' p' (((((W2.setCell ⟨g1, 0, none⟩ (.string ⟨t'.toArray⟩)).setCell ⟨g2, 0, none⟩ (.int .i64 (p'.i : Int))).setCell ⟨g2, 1, none⟩ (.int .i64 (p'.j : Int))).setCell ⟨g2, 2, none⟩ (.int .i64 p'.area)).setCell ⟨g2, 3, none⟩ (.int .i64 (p'.far : Int))).drew ∧
      Sv2 g1 g2 W (((((W2.setCell ⟨g1, 0, none⟩ (.string ⟨t'.toArray⟩)).setCell ⟨g2, 0, none⟩ (.int .i64 (p'.i : Int))).setCell ⟨g2, 1, none⟩ (.int .i64 (p'.j : Int))).setCell ⟨g2, 2, none⟩ (.int .i64 p'.area)).setCell ⟨g2, 3, none⟩ (.int .i64 (p'.far : Int))).drew) ∧
    (BsM bl g1 g2 v t' p' (((((W2.setCell ⟨g2, 0, none⟩ (.int .i64 (p'.i : Int))).setCell ⟨g2, 1, none⟩ (.int .i64 (p'.j : Int))).setCell ⟨g2, 2, none⟩ (.int .i64 p'.area)).setCell ⟨g2, 3, none⟩ (.int .i64 (p'.far : Int))).setCell ⟨g1, 0, none⟩ (.string ⟨t'.toArray⟩)).drew ∧
      Sv2 g1 g2 W (((((W2.setCell ⟨g2, 0, none⟩ (.int .i64 (p'.i : Int))).setCell ⟨g2, 1, none⟩ (.int .i64 (p'.j : Int))).setCell ⟨g2, 2, none⟩ (.int .i64 p'.area)).setCell ⟨g2, 3, none⟩ (.int .i64 (p'.far : Int))).setCell ⟨g1, 0, none⟩ (.string ⟨t'.toArray⟩)).drew) := by
  obtain ⟨pi, pj, pa, pf⟩ := p
  obtain ⟨qi, qj, qa, qf⟩ := p'
  obtain ⟨hl, hb, ho⟩ := h
  have k1 : (W2.setCell ⟨g1, 0, none⟩ (.string ⟨t'.toArray⟩)).heap[g1]? = some (.cells #[.string ⟨t'.toArray⟩] 39 (0, 0)) := s1row hb
  have k2 : (W2.setCell ⟨g1, 0, none⟩ (.string ⟨t'.toArray⟩)).heap[g2]? = some (.cells #[.int .i64 (pi : Int), .int .i64 (pj : Int), .int .i64 pa, .int .i64 (pf : Int)] 88 (0, 0)) := (heap_setCell_other _ _ _ _ h3.symm).trans ho
  have k3 : (W2.setCell ⟨g1, 0, none⟩ (.string ⟨t'.toArray⟩)).heap[bl]? = some (.cells #[v] 22 (0, 0)) := (heap_setCell_other _ _ _ _ h1).trans hl
  have m1 := s4row (v0 := .int .i64 (qi : Int)) (v1 := .int .i64 (qj : Int)) (v2 := .int .i64 qa) (v3 := .int .i64 (qf : Int)) k2
  have m2 := s4row (v0 := .int .i64 (qi : Int)) (v1 := .int .i64 (qj : Int)) (v2 := .int .i64 qa) (v3 := .int .i64 (qf : Int)) ho
  have n1 := o4row (w := W2.setCell ⟨g1, 0, none⟩ (.string ⟨t'.toArray⟩)) (v0 := .int .i64 (qi : Int)) (v1 := .int .i64 (qj : Int)) (v2 := .int .i64 qa) (v3 := .int .i64 (qf : Int)) h2
  have n2 := o4row (w := W2.setCell ⟨g1, 0, none⟩ (.string ⟨t'.toArray⟩)) (v0 := .int .i64 (qi : Int)) (v1 := .int .i64 (qj : Int)) (v2 := .int .i64 qa) (v3 := .int .i64 (qf : Int)) h3
  have n3 := o4row (w := W2) (v0 := .int .i64 (qi : Int)) (v1 := .int .i64 (qj : Int)) (v2 := .int .i64 qa) (v3 := .int .i64 (qf : Int)) h2
  have n4 := o4row (w := W2) (v0 := .int .i64 (qi : Int)) (v1 := .int .i64 (qj : Int)) (v2 := .int .i64 qa) (v3 := .int .i64 (qf : Int)) h3
  have e1 := (((((hs.set1 0 (.string ⟨t'.toArray⟩)).set2 0 (.int .i64 (qi : Int))).set2 1 (.int .i64 (qj : Int))).set2 2 (.int .i64 qa)).set2 3 (.int .i64 (qf : Int))).drew
  have e2 := (((((hs.set2 0 (.int .i64 (qi : Int))).set2 1 (.int .i64 (qj : Int))).set2 2 (.int .i64 qa)).set2 3 (.int .i64 (qf : Int))).set1 0 (.string ⟨t'.toArray⟩)).drew
  refine ⟨⟨BsM.drew ⟨?_, ?_, ?_⟩, e1⟩, ⟨BsM.drew ⟨?_, ?_, ?_⟩, e2⟩⟩
  · exact Eq.trans n1 k3
  · exact Eq.trans n2 k1
  · exact m1
  · exact (heap_setCell_other _ _ _ _ h1).trans (n3.trans hl)
  · exact s1row (n4.trans hb)
  · exact (heap_setCell_other _ _ _ _ h3.symm).trans m2
set_option maxRecDepth 100000 in
set_option maxHeartbeats 4000000 in
theorem better_c {v : Value} (ls : List St.Pt) (s : Option St.Prf) (x : St.Prf) (bl g1 g2 : Nat) (W : World) (hg : Good W) (S : SlX W v ls) (hin : ∀ p ∈ ls, St.InP p) (hn : ls.length ≤ 64) (hx : OkX ls x) (hs : ∀ y, s = some y → OkX ls y)
    (hM : BsM bl g1 g2 v (stT ls s) (stP s) W) (d1 : bl ≠ g1) (d2 : bl ≠ g2) (d3 : g1 ≠ g2) :
    Calls Tryz.prog 97 #[prfV x, .pointer (some ⟨bl, 0, none⟩), .pointer (some ⟨g1, 0, none⟩), .pointer (some ⟨g2, 0, none⟩)] W (BtP bl g1 g2 v (stT ls (St.bet ls s x)) (stP (St.bet ls s x)) W) := by
  have HG := Lib.hid (fun W' (h : Below W.heap.size W W') => hg.later h)
  have hA := below_al W (.cells (prfC x) 88)
  have HSQ := Lib.hid (fun W' (h : Below W.heap.size W W') => square_c ls x W' (hg.later h) (S.later h) hin hx.i hx.j hx.ne hx.area hn)
  have hM1 := hM.later hA
  have hq : W.heap.size ≠ g1 ∧ W.heap.size ≠ g2 := ⟨fun e => by have := (Array.getElem?_eq_some_iff.1 hM.b).1; omega, fun e => by have := (Array.getElem?_eq_some_iff.1 hM.o).1; omega⟩
  have hxc : (W.alloc (.cells (prfC x) 88)).heap[W.heap.size]? = some (.cells (prfC x) 88 (0, 0)) := heap_alloc_new W _
  have HP := Lib.hid (fun (W2 : World) (t : Txt) (p : St.Prf) (h : BsM bl g1 g2 v t p W2) (hs : Sv2 g1 g2 W W2) => h.put hs d1 d2 d3 (rtoa (St.wv ls x)) x)
  obtain ⟨sa, cap, rfl⟩ := S.len
  have hby := @bet_yes ls s x
  have hbn := @bet_no ls s x
  have szx := hx.sz hin
  have szs : ∀ y, s = some y → szQ (St.wv ls y) 24 := fun y e => (hs y e).sz hin
  rcases s with _ | y
  · have hb := hby (.inl rfl)
    rw [hb]
    change BsM bl g1 g2 (.slice sa ls.length cap) [] ⟨0, 0, 0, 0⟩ (W.alloc (.cells (prfC x) 88)) at hM1
    show Calls _ _ _ _ (BtP bl g1 g2 (.slice sa ls.length cap) (rtoa (St.wv ls x)) x W)
    generalize rtoa (St.wv ls x) = T at *
    obtain ⟨xi, xj, xa, xf⟩ := x
    clear hby hbn hb szx szs hs hx hin hM
    have l0 := c1row hM1.l
    obtain ⟨k0, k1, k2, k3⟩ := c4row hxc
    go_enter Tryz.func97, Tryz.ntmps97
    go_wp2_with fail
    generalize W.alloc (.cells #[.int .i64 (xi : Int), .int .i64 (xj : Int), .int .i64 xa, .int .i64 (xf : Int)] 88) = W1 at *
    ((with_reducible refine (HSQ.out _ hA).mono ?_); rintro e w1 ⟨rfl, hb1⟩)
    have hM2 := hM1.later hb1
    have hxc2 : w1.heap[W.heap.size]? = some (.cells #[.int .i64 (xi : Int), .int .i64 (xj : Int), .int .i64 xa, .int .i64 (xf : Int)] 88 (0, 0)) := by rw [hb1.block _ (Array.getElem?_eq_some_iff.1 hxc).1]; exact hxc
    have hB2 := hA.nx hb1
    have b0 := c1row hM2.b
    obtain ⟨o0, o1, o2, o3⟩ := c4row hM2.o
    obtain ⟨m0, m1, m2, m3⟩ := c4row hxc2
    have f1 := fun k => free_row hM2.b k
    have f2 := fun k => free_row hM2.o k
    have HPP := Lib.hid (HP.out w1 _ _ hM2 (Sv2.of hB2))
    clear l0 k0 k1 k2 k3 hxc hM1 hA hM2 hxc2 hB2 HP HSQ hb1
    obtain ⟨q1, q2⟩ := hq
    have q3 := q1.symm
    have q4 := q2.symm
    have d4 := d3.symm
    go_wp2_with fail
    go_region
    all_goals
      go_end0
      exact ⟨⟨_, rfl⟩, by first | exact HPP.out.1 | exact HPP.out.2⟩
  · have hless := fun W' (h : Below W.heap.size W W') => sless_c (St.wv ls x) (St.wv ls y) W' (hg.later h) (szx.mono (by decide)) ((szs y rfl).mono (by decide))
    change BsM bl g1 g2 (.slice sa ls.length cap) (rtoa (St.wv ls y)) y (W.alloc (.cells (prfC x) 88)) at hM1
    have hbt : ∀ (q : Bool), decide (St.wv ls x < St.wv ls y) = q → St.bet ls (some y) x = if q = true then some x else some y := fun q e => by
      cases q with
      | true => exact hby (.inr (of_decide_eq_true e))
      | false => exact hbn rfl (of_decide_eq_false e)
    have hT2 := rtoa_nn (St.wv ls y)
    generalize hqq : decide (St.wv ls x < St.wv ls y) = qq at *
    have HLS := Lib.hid hless
    have hst : ∀ z : St.Prf, stT ls (some z) = rtoa (St.wv ls z) := fun _ => rfl
    have hsp : ∀ z : St.Prf, stP (some z) = z := fun _ => rfl
    rw [hbt qq rfl]
    have HRES : BtP bl g1 g2 (.slice sa ls.length cap) (stT ls (if qq = true then some x else some y)) (stP (if qq = true then some x else some y)) W = BtP bl g1 g2 (.slice sa ls.length cap) (if qq = true then rtoa (St.wv ls x) else rtoa (St.wv ls y)) (if qq = true then x else y) W := by cases qq <;> rfl
    rw [HRES]
    generalize rtoa (St.wv ls x) = T at *
    generalize rtoa (St.wv ls y) = T2 at *
    obtain ⟨xi, xj, xa, xf⟩ := x
    obtain ⟨yi, yj, ya, yf⟩ := y
    have y1 : (T2 == []) = false := beq_eq_false_iff_ne.2 hT2
    have y3 : T2.isEmpty = false := by cases q : T2 with | nil => exact absurd q hT2 | cons _ _ => rfl
    obtain ⟨tt, htt⟩ : ∃ t, (if qq = true then T else T2) = t := ⟨_, rfl⟩
    obtain ⟨pp, hpp⟩ : ∃ p : St.Prf, (if qq = true then ⟨xi, xj, xa, xf⟩ else ⟨yi, yj, ya, yf⟩) = p := ⟨_, rfl⟩
    rw [htt, hpp]
    have HTT := Lib.hid htt
    have HPQ := Lib.hid hpp
    clear hby hbn szx szs hs hx hin hM hbt hT2 hqq hless hst hsp HRES htt hpp
    have l0 := c1row hM1.l
    obtain ⟨k0, k1, k2, k3⟩ := c4row hxc
    go_enter Tryz.func97, Tryz.ntmps97
    go_wp2_with fail
    generalize W.alloc (.cells #[.int .i64 (xi : Int), .int .i64 (xj : Int), .int .i64 xa, .int .i64 (xf : Int)] 88) = W1 at *
    ((with_reducible refine (HSQ.out _ hA).mono ?_); rintro e w1 ⟨rfl, hb1⟩)
    have hM2 := hM1.later hb1
    have hxc2 : w1.heap[W.heap.size]? = some (.cells #[.int .i64 (xi : Int), .int .i64 (xj : Int), .int .i64 xa, .int .i64 (xf : Int)] 88 (0, 0)) := by rw [hb1.block _ (Array.getElem?_eq_some_iff.1 hxc).1]; exact hxc
    have hB2 := hA.nx hb1
    have b0 := c1row hM2.b
    clear l0 k0 k1 k2 k3 hxc hM1 hA HSQ hb1
    go_wp2_with fail
    ((with_reducible refine (HLS.out _ hB2).mono ?_); rintro e w2 ⟨rfl, hb2⟩)
    have hM3 := hM2.later hb2
    have hxc3 : w2.heap[W.heap.size]? = some (.cells #[.int .i64 (xi : Int), .int .i64 (xj : Int), .int .i64 xa, .int .i64 (xf : Int)] 88 (0, 0)) := by rw [hb2.block _ (Array.getElem?_eq_some_iff.1 hxc2).1]; exact hxc2
    have hB3 := hB2.nx hb2
    cases qq with
    | false =>
      clear b0 hM2 hxc2 hxc3
      obtain rfl := HTT.out
      obtain rfl := HPQ.out
      go_wp2
      go_end0
      exact ⟨⟨_, rfl⟩, hM3, Sv2.of hB3⟩
    | true =>
      obtain rfl := HTT.out
      obtain rfl := HPQ.out
      have c0 := c1row hM3.b
      obtain ⟨o0, o1, o2, o3⟩ := c4row hM3.o
      obtain ⟨m0, m1, m2, m3⟩ := c4row hxc3
      have f1 := fun k => free_row hM3.b k
      have f2 := fun k => free_row hM3.o k
      have HPP := Lib.hid (HP.out w2 _ _ hM3 (Sv2.of hB3))
      clear b0 hM2 hxc2 hxc3 hM3 hB2 hB3 HP hb2
      obtain ⟨q1, q2⟩ := hq
      have q3 := q1.symm
      have q4 := q2.symm
      have d4 := d3.symm
      go_wp2_with fail
      go_region
      all_goals
        go_end0
        exact ⟨⟨_, rfl⟩, by first | exact HPP.out.1 | exact HPP.out.2⟩
end Go.Proofs.Wk
