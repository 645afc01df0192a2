/- STRAIGHTNESS: what Verify answers. Plain. -/
import Derived.Test.YtjopphkhpmoedaaGreatDoorScG
import Derived.Deep.RegionHeld3
namespace Go.Proofs.Wk
open Go.RowKit Mt

def idx (ls : List St.Pt) (n : Int) : Prop := 0 ≤ n ∧ n < (ls.length : Int)
instance (ls : List St.Pt) (n : Int) : Decidable (idx ls n) := inferInstanceAs (Decidable (0 ≤ n ∧ n < (ls.length : Int)))
def vLeft (ls : List St.Pt) (i j f : Nat) : Int := St.left (St.at_ ls i) (St.at_ ls j) (St.at_ ls f)
def ver (ls : List St.Pt) (sq : Txt) (i j f : Nat) : Bool :=
  if St.same ls = true then (decide (sq = [48]) && (decide (i = 0) && decide (j = 0)))
  else (decide (rtoa (St.wid ls) = sq) && (St.okP ls i j && (decide (rtoa (St.wv ls (St.prf ls i j)) = sq) && decide (max (vLeft ls i j f) (-(vLeft ls i j f)) = (St.prf ls i j).area))))
def verE (ls : List St.Pt) (sq : Txt) (i j f : Int) : Bool × Int :=
  if St.givP ls = 0 then (if rchk sq = 0 then (if idx ls i ∧ idx ls j ∧ idx ls f then (ver ls sq i.toNat j.toNat f.toNat, 0) else (false, 2)) else (false, rchk sq)) else (false, St.givP ls)
theorem verE_bad {ls : List St.Pt} {sq : Txt} {i j f : Int} (h : ¬ St.givP ls = 0) : verE ls sq i j f = (false, St.givP ls) := by unfold verE; rw [if_neg h]
theorem verE_chk {ls : List St.Pt} {sq : Txt} {i j f : Int} (h : St.givP ls = 0) (h2 : ¬ rchk sq = 0) : verE ls sq i j f = (false, rchk sq) := by unfold verE; rw [if_pos h, if_neg h2]
theorem verE_out {ls : List St.Pt} {sq : Txt} {i j f : Int} (h : St.givP ls = 0) (h2 : rchk sq = 0) (h3 : ¬ (idx ls i ∧ idx ls j ∧ idx ls f)) : verE ls sq i j f = (false, 2) := by unfold verE; rw [if_pos h, if_pos h2, if_neg h3]
theorem verE_ok {ls : List St.Pt} {sq : Txt} {i j f : Int} (h : St.givP ls = 0) (h2 : rchk sq = 0) (h3 : idx ls i ∧ idx ls j ∧ idx ls f) : verE ls sq i j f = (ver ls sq i.toNat j.toNat f.toNat, 0) := by unfold verE; rw [if_pos h, if_pos h2, if_pos h3]
theorem ver_same {ls : List St.Pt} {sq : Txt} {i j f : Nat} (h : St.same ls = true) : ver ls sq i j f = (decide (sq = [48]) && (decide (i = 0) && decide (j = 0))) := by unfold ver; rw [if_pos h]
theorem ver_wid {ls : List St.Pt} {sq : Txt} {i j f : Nat} (h : St.same ls = false) (h2 : ¬ rtoa (St.wid ls) = sq) : ver ls sq i j f = false := by
  unfold ver; rw [if_neg (by rw [h]; simp), decide_eq_false h2]; rfl
theorem ver_pair {ls : List St.Pt} {sq : Txt} {i j f : Nat} (h : St.same ls = false) (h2 : St.okP ls i j = false) : ver ls sq i j f = false := by
  unfold ver; rw [if_neg (by rw [h]; simp), h2]; simp
theorem ver_sq {ls : List St.Pt} {sq : Txt} {i j f : Nat} (h : St.same ls = false) (h2 : ¬ rtoa (St.wv ls (St.prf ls i j)) = sq) : ver ls sq i j f = false := by
  unfold ver; rw [if_neg (by rw [h]; simp), decide_eq_false h2]; simp
theorem ver_all {ls : List St.Pt} {sq : Txt} {i j f : Nat} (h : St.same ls = false) (h2 : rtoa (St.wid ls) = sq) (h3 : St.okP ls i j = true) (h4 : rtoa (St.wv ls (St.prf ls i j)) = sq) :
    ver ls sq i j f = decide (max (vLeft ls i j f) (-(vLeft ls i j f)) = (St.prf ls i j).area) := by
  unfold ver; rw [if_neg (by rw [h]; simp), decide_eq_true h2, h3, decide_eq_true h4]; rfl
theorem ver_all' {ls : List St.Pt} {sq : Txt} {i j f : Nat} (h : St.same ls = false) (h2 : rtoa (St.wid ls) = sq) (h3 : St.okP ls i j = true) (h4 : rtoa (St.wv ls (St.prf ls i j)) = sq) :
    ver ls sq i j f = decide (rtoa (St.wq (vLeft ls i j f) (St.at_ ls i) (St.at_ ls j)) = sq) := by
  rw [ver_all h h2 h3 h4]
  have h5 := St.verify_eq (f := f) h3 _ rfl
  subst h4
  rw [decide_eq_decide]
  unfold vLeft
  rw [← h5]
  exact ⟨fun e => by rw [e], fun e => rtoa_inj e⟩
theorem same_wid {ls : List St.Pt} (h : St.same ls = true) : rtoa (St.wid ls) = [48] := by
  have : St.least ls = none := St.same_none (St.same_iff.1 h)
  unfold St.wid
  rw [this]
  show rtoa 0 = [48]
  decide +kernel
end Go.Proofs.Wk
/- STRAIGHTNESS: Verify, walked. -/
namespace Go.Proofs.Wk
open Go.RowKit Mt

/-- What lies in memory where the last question is asked. -/
structure VrR (w W : World) (g gx b o1 o2 o3 ni nj : Nat) (x : St.Prf) (p q r : St.Pt) : Prop where
  a : W.heap[g]? = some (.cells #[.int .i64 (ni : Int), .int .i64 (nj : Int)] 47 (0, 0))
  x : W.heap[gx]? = some (.cells (prfC x) 88 (0, 0))
  p1 : PtAt W b o1 p
  p2 : PtAt W b o2 q
  p3 : PtAt W b o3 r
  w : Below w.heap.size w W
theorem VrR.later {w W W' : World} {g gx b o1 o2 o3 ni nj : Nat} {x : St.Prf} {p q r : St.Pt} (h : VrR w W g gx b o1 o2 o3 ni nj x p q r) (hb : Below W.heap.size W W') : VrR w W' g gx b o1 o2 o3 ni nj x p q r :=
  ⟨keepR h.a hb, keepR h.x hb, h.p1.later hb, h.p2.later hb, h.p3.later hb, h.w.nx hb⟩
theorem VrR.drew {w W : World} {g gx b o1 o2 o3 ni nj : Nat} {x : St.Prf} {p q r : St.Pt} (h : VrR w W g gx b o1 o2 o3 ni nj x p q r) : VrR w W.drew g gx b o1 o2 o3 ni nj x p q r := ⟨h.a, h.x, h.p1.drew, h.p2.drew, h.p3.drew, h.w.drew⟩
theorem VrR.t {w W : World} {g gx b o1 o2 o3 ni nj : Nat} {x : St.Prf} {p q r : St.Pt} (h : VrR w W g gx b o1 o2 o3 ni nj x p q r) :
    W.cell? ⟨g, 0, none⟩ = some (.int .i64 (ni : Int)) ∧ W.cell? ⟨g, 1, none⟩ = some (.int .i64 (nj : Int)) ∧ W.cell? ⟨b, o1, none⟩ = some (.int .i64 p.x) ∧ W.cell? ⟨b, o1 + 1, none⟩ = some (.int .i64 p.y) ∧ W.cell? ⟨b, o2, none⟩ = some (.int .i64 q.x) ∧ W.cell? ⟨b, o2 + 1, none⟩ = some (.int .i64 q.y) ∧
      W.cell? ⟨b, o3, none⟩ = some (.int .i64 r.x) ∧ W.cell? ⟨b, o3 + 1, none⟩ = some (.int .i64 r.y) ∧ VrR w W g gx b o1 o2 o3 ni nj x p q r :=
  ⟨(c2row h.a).1, (c2row h.a).2, h.p1.c0, h.p1.c1, h.p2.c0, h.p2.c1, h.p3.c0, h.p3.c1, h⟩
theorem ij0 (ni nj : Nat) : ((ni : Int) == 0 && (nj : Int) == 0) = (decide (ni = 0) && decide (nj = 0)) := by
  rw [Bool.eq_iff_iff]; simp
theorem ints3 (w : World) (i j f : Int) (t : TypeId) : ∀ (k : Nat) (hk : k < 3), (w.alloc (.cells #[.int .i64 i, .int .i64 j, .int .i64 f] t)).cell? ⟨w.heap.size, k, none⟩ = some (.int .i64 [i, j, f][k]) := fun k hk => by
  rw [cell_of_row _ _ _ _ _ _ (heap_alloc_new w _)]
  match k, hk with
  | 0, _ => rfl
  | 1, _ => rfl
  | 2, _ => rfl
theorem idx_any {ls : List St.Pt} {i j f : Int} {k : Nat} {hk : k < 3} (h : ¬ idx ls [i, j, f][k]) : ¬ (idx ls i ∧ idx ls j ∧ idx ls f) := by
  rintro ⟨a, b, c⟩
  match k, hk, h with
  | 0, _, h => exact h a
  | 1, _, h => exact h b
  | 2, _, h => exact h c
theorem idx_next {ls : List St.Pt} {i j f : Int} {k : Nat} (hk : k < 3) (h : ∀ (m : Nat) (hm : m < 3), m < k → idx ls [i, j, f][m]) (hx : idx ls [i, j, f][k]) : ∀ (m : Nat) (hm : m < 3), m < k + 1 → idx ls [i, j, f][m] := fun m hm h2 => by
  by_cases e : m = k
  · subst e; exact hx
  · exact h m hm (by omega)
theorem idx_all {ls : List St.Pt} {i j f : Int} (h : ∀ (k : Nat) (hk : k < 3), idx ls [i, j, f][k]) : idx ls i ∧ idx ls j ∧ idx ls f := ⟨h 0 (by decide), h 1 (by decide), h 2 (by decide)⟩
set_option maxRecDepth 100000 in
set_option maxHeartbeats 4000000 in
theorem Verify_c {v : Value} (ls : List St.Pt) (sq : Txt) (i j f : Int) (w : World) (hg : Good w) (S : SlX w v ls) (hln : ls.length ≤ 140737488355328) (hsq : sq.length ≤ 140737488355328) :
    Calls Tryz.prog 38 #[v, .string ⟨sq.toArray⟩, .agg #[.int .i64 i, .int .i64 j], .int .i64 f] w (Ret w (bint (verE ls sq i j f))) := by
  have HGV := Lib.hid (fun W (h : Below w.heap.size w W) => given_c ls W (S.later h) hln)
  have HQC := Lib.hid (fun W (h : Below w.heap.size w W) => qCheck_c sq W (hg.later h) hsq)
  have hn := heap_alloc_new w (.cells #[.int .i64 i, .int .i64 j] 47)
  have hB := below_al w (.cells #[.int .i64 i, .int .i64 j] 47)
  by_cases h0 : St.givP ls = 0
  rotate_left
  · rw [verE_bad h0]
    generalize St.givP ls = E at *
    have z : (E != 0) = true := bne_iff_ne.2 h0
    obtain ⟨sa, cap, rfl⟩ := S.len
    clear h0 S hg
    go_enter Tryz.func38, Tryz.ntmps38
    go_wp2_with fail
    generalize w.alloc (.cells #[.int .i64 i, .int .i64 j] 47) = W at *
    ((with_reducible refine (HGV.out _ hB).mono ?_); rintro e w1 ⟨rfl, hb1⟩)
    have hB1 := hB.nx hb1
    clear hn
    go_wp2
    go_ret2
    exact ⟨rfl, hB1⟩
  by_cases hc : rchk sq = 0
  rotate_left
  · rw [verE_chk h0 hc]
    rw [h0] at HGV
    generalize rchk sq = E at *
    have z : (E != 0) = true := bne_iff_ne.2 hc
    obtain ⟨sa, cap, rfl⟩ := S.len
    clear h0 S hg hc
    go_enter Tryz.func38, Tryz.ntmps38
    go_wp2_with fail
    generalize w.alloc (.cells #[.int .i64 i, .int .i64 j] 47) = W at *
    ((with_reducible refine (HGV.out _ hB).mono ?_); rintro e w1 ⟨rfl, hb1⟩)
    have hB1 := hB.nx hb1
    clear hn
    go_wp2_with fail
    ((with_reducible refine (HQC.out _ hB1).mono ?_); rintro e w2 ⟨rfl, hb2⟩)
    have hB2 := hB1.nx hb2
    go_wp2
    go_ret2
    exact ⟨rfl, hB2⟩
  rw [h0] at HGV
  rw [hc] at HQC
  obtain ⟨i1, i2, i3⟩ := St.givP_in h0
  have HOUT := Lib.hid (fun h => verE_out (i := i) (j := j) (f := f) h0 hc h)
  have HOK := Lib.hid (fun h => verE_ok (i := i) (j := j) (f := f) h0 hc h)
  have HSL := Lib.hid S
  have HIN := Lib.hid i3
  have HG := Lib.hid (fun W (h : Below w.heap.size w W) => hg.later h)
  have HSM := Lib.hid (fun W (h : Below w.heap.size w W) => same_c ls W (S.later h) i1 hln)
  refine S.cases _ ?_ ?_
  · rintro a cap rfl rfl
    simp at i1
  rintro b off cap rfl hp hR hb
  have HR := Lib.hid (fun (W : World) (h : Below w.heap.size w W) (k : Nat) (hk : k < ls.length) => (hR.later h hb).ptAt hk)
  generalize verE ls sq i j f = Y at *
  obtain ⟨Y1, Y2⟩ := Y
  clear h0 hc S hg i3 hR hp hb
  go_enter Tryz.func38, Tryz.ntmps38
  go_wp2_with fail
  generalize w.alloc (.cells #[.int .i64 i, .int .i64 j] 47) = W at *
  ((with_reducible refine (HGV.out _ hB).mono ?_); rintro e w1 ⟨rfl, hb1⟩)
  have hB1 := hB.nx hb1
  have hn1 := keepR hn hb1
  go_wp2_with fail
  ((with_reducible refine (HQC.out _ hB1).mono ?_); rintro e w2 ⟨rfl, hb2⟩)
  have hB2 := hB1.nx hb2
  have hn2 := keepR hn1 hb2
  obtain ⟨c0, c1⟩ := c2row hn2
  clear hn hn1 hb1 hb2 hB hB1 HGV HQC
  go_wp2_with fail
  have HI3 := Lib.hid (ints3 w2 i j f 3)
  have hn3 := keepR hn2 (below_al w2 (.cells #[.int .i64 i, .int .i64 j, .int .i64 f] 3))
  have hB3 := hB2.nx (below_al w2 (.cells #[.int .i64 i, .int .i64 j, .int .i64 f] 3))
  generalize w2.alloc (.cells #[.int .i64 i, .int .i64 j, .int .i64 f] 3) = W3 at *
  generalize w2.heap.size = g3 at *
  clear hn2 hB2 c0 c1
  go_loopw [36] (fun sk wr => ∃ k : Nat, sk = .int .i64 (k : Int) ∧ k ≤ 3 ∧ wr = W3 ∧ Hid (∀ (m : Nat) (hm : m < 3), m < k → idx ls [i, j, f][m])) (fun sk _ => 3 - (intOf sk).toNat)
  case atStart => exact ⟨0, rfl, by omega, rfl, fun m _ h => absurd h (Nat.not_lt_zero m)⟩
  case round =>
    obtain ⟨k, rfl, hk, rfl, hid⟩ := hrel
    by_cases hlt : k < 3
    · have k0 := HI3.out k hlt
      have hany := fun h => HOUT.out (idx_any (hk := hlt) h)
      have hnext := fun h => idx_next hlt hid.out h
      generalize [i, j, f][k] = x at *
      rcases (by omega : x < 0 ∨ (0 ≤ x ∧ x < (ls.length : Int)) ∨ (0 ≤ x ∧ (ls.length : Int) ≤ x)) with h | ⟨h, h'⟩ | ⟨h, h'⟩
      · obtain ⟨rfl, rfl⟩ := Prod.mk.inj (hany (fun q => by have := q.1; omega))
        clear hany hnext HOUT HOK
        go_wp2
        go_ret2
        exact ⟨rfl, hB3⟩
      · have HNX := Lib.hid (hnext ⟨h, h'⟩)
        clear hany hnext
        go_wp2
        go_roundw
        case rel => exact ⟨k + 1, by go_num, by omega, trivial, HNX.out⟩
        case measure => simp [intOf]; omega
      · obtain ⟨rfl, rfl⟩ := Prod.mk.inj (hany (fun q => by have := q.2; omega))
        clear hany hnext HOUT HOK
        go_wp2
        go_ret2
        exact ⟨rfl, hB3⟩
    · obtain rfl : k = 3 := by omega
      have hok := idx_all (fun m hm => hid.out m hm hm)
      have hv := HOK.out hok
      obtain ⟨⟨p1, p2⟩, ⟨p3, p4⟩, p5, p6⟩ := hok
      obtain ⟨ni, rfl⟩ := Int.eq_ofNat_of_zero_le p1
      obtain ⟨nj, rfl⟩ := Int.eq_ofNat_of_zero_le p3
      obtain ⟨nf, rfl⟩ := Int.eq_ofNat_of_zero_le p5
      simp only [Int.toNat_natCast] at hv
      have hi : ni < ls.length := by omega
      have hj : nj < ls.length := by omega
      have hf : nf < ls.length := by omega
      clear HOUT HOK hid HI3 p1 p2 p3 p4 p5 p6
      cases hsm : St.same ls with
      | true =>
        have HSM2 := Lib.hid (fun W (h : Below w.heap.size w W) => by have := HSM.out W h; rwa [hsm] at this)
        rw [ver_same hsm] at hv
        obtain ⟨rfl, rfl⟩ := Prod.mk.inj hv
        clear hv HSM hsm
        go_wp2_with fail
        ((with_reducible refine (HSM2.out _ hB3).mono ?_); rintro e w4 ⟨rfl, hb4⟩)
        have hB4 := hB3.nx hb4
        obtain ⟨c0, c1⟩ := c2row (keepR hn3 hb4)
        have ae := fun W => ar_eql (ni : Int) (nj : Int) 0 0 W
        clear hn3 hb4 hB3
        by_cases hz : sq = [48]
        · subst hz
          go_wp2
          go_ret2
          refine ⟨?_, hB4⟩
          show Ending.returned (.tuple #[.bool ((ni : Int) == 0 && (nj : Int) == 0), .int .i64 0]) = Ending.returned (.tuple #[.bool (decide (([48] : Txt) = [48]) && (decide (ni = 0) && decide (nj = 0))), .int .i64 0])
          rw [ij0]; rfl
        · have y1 : (sq == [48]) = false := beq_eq_false_iff_ne.2 hz
          go_wp2
          go_ret2
          refine ⟨?_, hB4⟩
          rw [decide_eq_false hz]; rfl
      | false =>
        have HSM2 := Lib.hid (fun W (h : Below w.heap.size w W) => by have := HSM.out W h; rwa [hsm] at this)
        have hle := fun W (h : Below w.heap.size w W) => least_c ls W (HG.out W h) (HSL.out.later h) HIN.out i1 i2
        rw [bsQ_wid] at hle
        have HLE := Lib.hid hle
        have HSU := Lib.hid (fun W (h : Below w.heap.size w W) => supporting_c ls ni nj W (HSL.out.later h) HIN.out hi hj i2)
        have HV1 := Lib.hid (fun h => hv.trans (congrArg (fun x => (x, (0 : Int))) (ver_wid (i := ni) (j := nj) (f := nf) (sq := sq) hsm h)))
        have HV2 := Lib.hid (fun h => hv.trans (congrArg (fun x => (x, (0 : Int))) (ver_pair (i := ni) (j := nj) (f := nf) (sq := sq) hsm h)))
        have HV3 := Lib.hid (fun h => hv.trans (congrArg (fun x => (x, (0 : Int))) (ver_sq (i := ni) (j := nj) (f := nf) (sq := sq) hsm h)))
        have HV4 := Lib.hid (fun h1 h2 h3 => hv.trans (congrArg (fun x => (x, (0 : Int))) (ver_all (i := ni) (j := nj) (f := nf) (sq := sq) hsm h1 h2 h3)))
        obtain ⟨xa, xf, hxx⟩ : ∃ xa xf, St.prf ls ni nj = ⟨ni, nj, xa, xf⟩ := ⟨_, _, rfl⟩
        have HSQ := Lib.hid (fun (hok : St.okP ls ni nj = true) W (h : Below w.heap.size w W) => square_c ls (St.prf ls ni nj) W (HG.out W h) (HSL.out.later h) HIN.out hi hj (St.okP_ne hok) (prf_bd HIN.out hi hj) i2)
        have HLF := Lib.hid (fun W => left_g (St.at_ ls ni) (St.at_ ls nj) (St.at_ ls nf) W (St.at_in HIN.out hi) (St.at_in HIN.out hj) (St.at_in HIN.out hf))
        obtain ⟨-, -, l1, l2⟩ := St.left_bd (St.at_in HIN.out hi) (St.at_in HIN.out hj) (St.at_in HIN.out hf)
        unfold vLeft at HV4
        rw [hxx] at HSQ HSU HV3 HV4
        generalize stP (St.least ls) = y at *
        obtain ⟨yi, yj, ya, yf⟩ := y
        generalize rtoa (St.wid ls) = T1 at *
        generalize rtoa (St.wv ls ⟨ni, nj, xa, xf⟩) = T2 at *
        clear hle hv HSM hsm hxx
        go_wp2_with fail
        ((with_reducible refine (HSM2.out _ hB3).mono ?_); rintro e w4 ⟨rfl, hb4⟩)
        have hB4 := hB3.nx hb4
        have hn4 := keepR hn3 hb4
        go_wp2_with fail
        ((with_reducible refine (HLE.out _ hB4).mono ?_); rintro e w5 ⟨rfl, hb5⟩)
        have hA6 := below_al w5 (.cells #[.int .i64 (yi : Int), .int .i64 (yj : Int), .int .i64 ya, .int .i64 (yf : Int)] 88)
        have hB6 := (hB4.nx hb5).nx hA6
        have hn6 := keepR (keepR hn4 hb5) hA6
        obtain ⟨c0, c1⟩ := c2row hn6
        clear hn3 hn4 hb4 hb5 hB3 hB4 hA6 HLE HSM2
        go_wp2_with fail
        generalize w5.alloc (.cells #[.int .i64 (yi : Int), .int .i64 (yj : Int), .int .i64 ya, .int .i64 (yf : Int)] 88) = w6 at *
        ((with_reducible refine (HSU.out _ hB6).mono ?_); rintro e w7 ⟨rfl, hb7⟩)
        have hA8 := below_al w7 (.cells #[.int .i64 (ni : Int), .int .i64 (nj : Int), .int .i64 xa, .int .i64 (xf : Int)] 88)
        have hB8 := (hB6.nx hb7).nx hA8
        have hn8 := keepR (keepR hn6 hb7) hA8
        have hx8 := heap_alloc_new w7 (.cells #[.int .i64 (ni : Int), .int .i64 (nj : Int), .int .i64 xa, .int .i64 (xf : Int)] 88)
        clear hA8 hb7 hB6 hn6 c0 c1 HSU
        cases hok : St.okP ls ni nj with
        | false =>
          obtain ⟨rfl, rfl⟩ := Prod.mk.inj (HV2.out hok)
          clear HV1 HV2 HV3 HV4 hok hx8 hn8
          go_wp2
          go_ret2
          exact ⟨rfl, hB8⟩
        | true =>
          by_cases hw1 : T1 = sq
          · subst hw1
            have HSQ2 := Lib.hid (HSQ.out hok)
            obtain ⟨l0, l3, l4, l5⟩ := c4row hx8
            by_cases hw2 : T2 = T1
            · subst hw2
              obtain ⟨rfl, rfl⟩ := Prod.mk.inj (HV4.out rfl hok rfl)
              clear HV1 HV2 HV3 HV4 HSQ hok
              go_wp2_with fail
              generalize w7.alloc (.cells #[.int .i64 (ni : Int), .int .i64 (nj : Int), .int .i64 xa, .int .i64 (xf : Int)] 88) = w8 at *
              generalize w7.heap.size = gx at *
              ((with_reducible refine (HSQ2.out _ hB8).mono ?_); rintro e w9 ⟨rfl, hb9⟩)
              have hB9 := hB8.nx hb9
              have hr0 : VrR w w9 w.heap.size gx b (off + ni * 2) (off + nj * 2) (off + nf * 2) ni nj ⟨ni, nj, xa, xf⟩ (St.at_ ls ni) (St.at_ ls nj) (St.at_ ls nf) := ⟨keepR hn8 hb9, keepR hx8 hb9, HR.out _ hB9 ni hi, HR.out _ hB9 nj hj, HR.out _ hB9 nf hf, hB9⟩
              clear hn8 hx8 hB8 hb9 hB9 l0 l3 l4 l5 HSQ2
              generalize hnn : St.left (St.at_ ls ni) (St.at_ ls nj) (St.at_ ls nf) = n at *
              have hw : IntKind.i64.wrap (-n) = -n := Go.Proofs.Wk.wr rfl (by omega)
              generalize St.at_ ls ni = p1 at *
              generalize St.at_ ls nj = p2 at *
              generalize St.at_ ls nf = p3 at *
              obtain ⟨ax, ay⟩ := p1
              obtain ⟨bx, by_⟩ := p2
              obtain ⟨cx, cy⟩ := p3
              have HR0 := Lib.hid hr0
              clear hr0 hnn
              go_wp2_with fail
              generalize hgg : w.heap.size = g at *
              go_region_held3 (fun w' => w'.cell? ⟨g, 0, none⟩ = some (.int .i64 (ni : Int)) ∧ w'.cell? ⟨g, 1, none⟩ = some (.int .i64 (nj : Int)) ∧ w'.cell? ⟨b, off + ni * 2, none⟩ = some (.int .i64 ax) ∧ w'.cell? ⟨b, off + ni * 2 + 1, none⟩ = some (.int .i64 ay) ∧
                  w'.cell? ⟨b, off + nj * 2, none⟩ = some (.int .i64 bx) ∧ w'.cell? ⟨b, off + nj * 2 + 1, none⟩ = some (.int .i64 by_) ∧ w'.cell? ⟨b, off + nf * 2, none⟩ = some (.int .i64 cx) ∧ w'.cell? ⟨b, off + nf * 2 + 1, none⟩ = some (.int .i64 cy) ∧
                  VrR w w' g gx b (off + ni * 2) (off + nj * 2) (off + nf * 2) ni nj ⟨ni, nj, xa, xf⟩ ⟨ax, ay⟩ ⟨bx, by_⟩ ⟨cx, cy⟩)
                (first | exact JJ.t | exact HR0.out.t | exact HR0.out.drew.t)
                (first
                  | (go_at_call 80; (with_reducible refine (HLF.out _).mono ?_); rintro e w10 ⟨rfl, hb10⟩; (first | have JJ := HR0.out.drew.later hb10 | have JJ := HR0.out.later hb10))
                  | fail)
              all_goals
                obtain ⟨l0, l3, l4, l5⟩ := c4row JJ.x
                have hB10 := JJ.w
                clear JJ HR0 HLF
                go_wp2
                go_ret2
                exact ⟨rfl, hB10⟩
            · have y1 : (T2 == T1) = false := beq_eq_false_iff_ne.2 hw2
              have y2 : (T2 != T1) = true := bne_iff_ne.2 hw2
              obtain ⟨rfl, rfl⟩ := Prod.mk.inj (HV3.out hw2)
              clear HV1 HV2 HV3 HV4 HSQ hok
              go_wp2_with fail
              generalize w7.alloc (.cells #[.int .i64 (ni : Int), .int .i64 (nj : Int), .int .i64 xa, .int .i64 (xf : Int)] 88) = w8 at *
              ((with_reducible refine (HSQ2.out _ hB8).mono ?_); rintro e w9 ⟨rfl, hb9⟩)
              have hB9 := hB8.nx hb9
              clear l0 l3 l4 l5
              go_wp2
              go_ret2
              exact ⟨rfl, hB9⟩
          · have y1 : (T1 == sq) = false := beq_eq_false_iff_ne.2 hw1
            have y2 : (T1 != sq) = true := bne_iff_ne.2 hw1
            obtain ⟨rfl, rfl⟩ := Prod.mk.inj (HV1.out hw1)
            clear HV1 HV2 HV3 HV4 HSQ hok
            go_wp2
            go_ret2
            exact ⟨rfl, hB8⟩
end Go.Proofs.Wk
