/- SQUARENESS: points moved along the direction: plain laws. -/
import Derived.Test.YtenoganbeccanaaGreatDoorLoE
import Derived.Test.YtenoganbeccanaaGreatDoorOpenS
namespace Go.Proofs.Wk
open Go.RowKit Mt

/-- A point moved along a direction. -/
def mv (d p : Or.P3) (k : Int) : Or.P3 := ⟨p.x + k * d.x, p.y + k * d.y, p.z + k * d.z⟩
/-- How far a point moves. -/
def kOf (bs : List I8) (i : Nat) : Int := if -50 < (bs.getD i ⟨0⟩).n ∧ (bs.getD i ⟨0⟩).n < 50 then (bs.getD i ⟨0⟩).n else 0
theorem kOf_bd (bs : List I8) (i : Nat) : -50 < kOf bs i ∧ kOf bs i < 50 := by unfold kOf; split <;> omega
theorem kOf_yes {bs : List I8} {i : Nat} (h : -50 < (bs.getD i ⟨0⟩).n) (h2 : (bs.getD i ⟨0⟩).n < 50) : kOf bs i = (bs.getD i ⟨0⟩).n := if_pos ⟨h, h2⟩
theorem kOf_no {bs : List I8} {i : Nat} (h : ¬ (-50 < (bs.getD i ⟨0⟩).n ∧ (bs.getD i ⟨0⟩).n < 50)) : kOf bs i = 0 := if_neg h
theorem kOf_out {bs : List I8} {i : Nat} (h : bs.length ≤ i) : kOf bs i = 0 := by
  unfold kOf
  rw [List.getD_eq_getElem?_getD, List.getElem?_eq_none h]
  rfl
theorem mv_zero (d p : Or.P3) : mv d p 0 = p := by unfold mv; simp
/-- The points once moved. -/
def slM (ls : List Or.P3) (d : Or.P3) (bs : List I8) : List Or.P3 := (List.range ls.length).map fun a => mv d (Or.at_ ls a) (kOf bs a)
def mvA (ls : List Or.P3) (d : Or.P3) (bs : List I8) (i a : Nat) : Or.P3 := if a < i then mv d (Or.at_ ls a) (kOf bs a) else Or.at_ ls a
section
variable {ls : List Or.P3} {d : Or.P3} {bs : List I8}
theorem slM_len : (slM ls d bs).length = ls.length := by unfold slM; simp
theorem slM_at {a : Nat} (h : a < ls.length) : Or.at_ (slM ls d bs) a = mv d (Or.at_ ls a) (kOf bs a) := by
  rw [Or.at_get (by rw [slM_len]; exact h)]
  unfold slM
  simp
theorem slM_slid : ∀ i, i < ls.length → Or.slid d (Or.at_ ls i) (Or.at_ (slM ls d bs) i) := fun i h => ⟨kOf bs i, by rw [slM_at h]; rfl⟩
theorem mv_near {p : Or.P3} {k : Int} (hp : near3 p = true) (hd : near3 d = true) (hk : -50 < k ∧ k < 50) :
    (-49950 ≤ k * d.x ∧ k * d.x ≤ 49950 ∧ -49950 ≤ k * d.y ∧ k * d.y ≤ 49950 ∧ -49950 ≤ k * d.z ∧ k * d.z ≤ 49950) ∧ InS (mv d p k) := by
  have h1 := near3_is.1 hp
  have h2 := near3_is.1 hd
  have a := St.mul_bd (x := k) (y := d.x) (k := 50) (m := 999) (by omega) (by omega)
  have b := St.mul_bd (x := k) (y := d.y) (k := 50) (m := 999) (by omega) (by omega)
  have c := St.mul_bd (x := k) (y := d.z) (k := 50) (m := 999) (by omega) (by omega)
  refine ⟨by omega, ?_⟩
  unfold InS mv
  simp only
  omega
theorem highE_mk {m : List Or.P3} (h0 : 0 < m.length) (h64 : m.length ≤ 64) (hin : ∀ p ∈ m, InS p) (hd : InS d) (hne : d ≠ ⟨0, 0, 0⟩) : highE m d = 0 := by
  unfold highE chkS
  rw [if_neg (show ¬ 64 < m.length by omega), if_pos (List.all_eq_true.2 fun p hp => inS_iff.2 (hin p hp)), if_pos rfl, if_pos (inS_iff.2 hd), if_neg (by omega), if_neg hne]
theorem slM_in (hn : ∀ p ∈ ls, near3 p = true) (hd : near3 d = true) : ∀ p ∈ slM ls d bs, InS p := by
  intro p hp
  obtain ⟨i, hi, rfl⟩ := Or.mem_at hp
  rw [slM_len] at hi
  rw [slM_at hi]
  exact (mv_near (hn _ (Or.at_mem hi)) hd (kOf_bd bs i)).2
theorem spN_sz (hin : ∀ p ∈ ls, InS p) (hd : InS d) (hne : d ≠ ⟨0, 0, 0⟩) : szQ (Rat.divInt (Or.spN ls d) (Or.dot d d)) 42 := by
  have hp := Or.dot_pos hne
  have hD := dotS_in hd hd
  have hD2 : lng (Or.dot d d) ≤ 42 := by
    refine lng_bd (by decide) ?_
    have e : (10 : Nat) ^ 42 > 100000000000 := by decide
    omega
  refine szQ_divInt ?_ hD2 (by omega)
  unfold Or.spN
  by_cases h1 : ls.length = 1
  · rw [if_pos h1]; exact lng_bd (by decide) (by decide)
  · rw [if_neg h1]
    rcases (Or.spread_spec ls d).1 with e | ⟨i, j, hij, hj, e⟩
    · rw [e]; exact lng_bd (by decide) (by decide)
    · rw [e]; exact wy_lng hd hin (Nat.lt_trans hij hj) hj
/-- The zone and the spread after the points moved. -/
theorem slM_all (h : highE ls d = 0) (hn : ∀ p ∈ ls, near3 p = true) (hd : near3 d = true) :
    highE (slM ls d bs) d = 0 ∧ Or.wid (slM ls d bs) d = Or.wid ls d ∧ axV (slM ls d bs) d = axV ls d := by
  obtain ⟨l0, l64, -, hdI, hne⟩ := highE_ok h
  have e0 : highE (slM ls d bs) d = 0 := highE_mk (by rw [slM_len]; exact l0) (by rw [slM_len]; exact l64) (slM_in hn hd) hdI hne
  have e1 := Or.slid_wid (l := ls) (m := slM ls d bs) (d := d) slM_len slM_slid
  obtain ⟨e2, e3⟩ := Or.slid_spread (l := ls) (m := slM ls d bs) (d := d) slM_len slM_slid
  refine ⟨e0, e1, ?_⟩
  unfold axV
  rw [if_pos e0, if_pos h, e2, e3]
theorem upV_val (h : highE ls d = 0) : ∃ i j k : Nat, upV ls d = .tuple #[.string ⟨(rtoa (Or.wid ls d)).toArray⟩, .agg #[.int .i64 (i : Int), .int .i64 (j : Int), .int .i64 (k : Int)], .int .i64 0] := by
  unfold upV
  rw [if_pos h]
  exact ⟨_, _, _, rfl⟩
theorem axV_val (h : highE ls d = 0) : ∃ i j : Nat, axV ls d = .tuple #[.string ⟨(rtoa (Rat.divInt (Or.spN ls d) (Or.dot d d))).toArray⟩, .agg #[.int .i64 (i : Int), .int .i64 (j : Int)], .int .i64 0] := by
  unfold axV
  rw [if_pos h]
  exact ⟨_, _, rfl⟩
theorem SpAt.t0 {W : World} {b : Nat} {x y z : Int} (h : SpAt W b 0 ⟨x, y, z⟩) : W.cell? ⟨b, 0, none⟩ = some (.int .i64 x) ∧ W.cell? ⟨b, 1, none⟩ = some (.int .i64 y) ∧ W.cell? ⟨b, 2, none⟩ = some (.int .i64 z) := ⟨h.c0, h.c1, h.c2⟩
theorem SpAt.t {W : World} {b o : Nat} {x y z : Int} (h : SpAt W b o ⟨x, y, z⟩) : W.cell? ⟨b, o, none⟩ = some (.int .i64 x) ∧ W.cell? ⟨b, o + 1, none⟩ = some (.int .i64 y) ∧ W.cell? ⟨b, o + 2, none⟩ = some (.int .i64 z) := ⟨h.c0, h.c1, h.c2⟩
theorem SlX.i8s {w : World} {u : Value} {bs : List I8} (T : SlX w u bs) : ∃ a cap, u = .slice a bs.length cap ∧ ∀ i, i < bs.length → ∃ b off, a = some ⟨b, off, none⟩ ∧ ∀ W, Below w.heap.size w W → W.cell? ⟨b, off + i, none⟩ = some (.int .i8 (bs.getD i ⟨0⟩).n) := by
  rcases T with ⟨a, cap, rfl, rfl⟩ | ⟨b, off, cap, rfl, hr, hb⟩
  · exact ⟨a, cap, rfl, fun i hi => absurd hi (Nat.not_lt_zero i)⟩
  · refine ⟨_, cap, rfl, fun i hi => ⟨b, off, rfl, fun W h => ?_⟩⟩
    rw [h.cell (p := ⟨b, off + i, none⟩) hb, List.getD_eq_getElem?_getD, List.getElem?_eq_getElem hi]
    have := hr i hi 0 (by decide)
    rw [show Row.k I8 = 1 from rfl, Nat.mul_one] at this
    exact this
/-- What lies in memory while points are moved. -/
structure MvM (w W : World) (gd g o : Nat) (ls : List Or.P3) (d : Or.P3) (bs : List I8) (i : Nat) : Prop where
  u : SpAt W gd 0 d
  m : ∀ a, a < ls.length → SpAt W g (o + a * 3) (mvA ls d bs i a)
  f : ∀ k, W.frozen? ⟨g, k, none⟩ = false
  w : Below w.heap.size w W
theorem MvM.drew {w W : World} {gd g o i : Nat} (h : MvM w W gd g o ls d bs i) : MvM w W.drew gd g o ls d bs i := ⟨h.u.drew, fun a ha => (h.m a ha).drew, h.f, h.w.drew⟩
theorem MvM.same {w W : World} {gd g o i : Nat} (h : MvM w W gd g o ls d bs i) (hk : kOf bs i = 0) : MvM w W gd g o ls d bs (i + 1) := by
  refine ⟨h.u, fun a ha => ?_, h.f, h.w⟩
  have := h.m a ha
  unfold mvA at this ⊢
  by_cases e : a = i
  · subst e
    rw [if_neg (Nat.lt_irrefl a)] at this
    rw [if_pos (Nat.lt_succ_self a), hk, mv_zero]
    exact this
  · by_cases e2 : a < i
    · rw [if_pos e2] at this
      rw [if_pos (by omega)]
      exact this
    · rw [if_neg e2] at this
      rw [if_neg (by omega)]
      exact this
theorem MvM.pt {w W : World} {gd g o i : Nat} (h : MvM w W gd g o ls d bs i) (hi : i < ls.length) : SpAt W g (o + i * 3) (Or.at_ ls i) := by
  have := h.m i hi
  unfold mvA at this
  rwa [if_neg (Nat.lt_irrefl i)] at this
theorem setc_off {W : World} {g b x y : Nat} {u : Value} (h : g ≠ b ∨ x ≠ y) : (W.setCell ⟨g, x, none⟩ u).cell? ⟨b, y, none⟩ = W.cell? ⟨b, y, none⟩ := by
  refine World.cell?_setCell_other _ _ _ _ (fun e => ?_)
  injection e with e1 e2
  rcases h with h | h
  · exact h e1
  · exact h e2
theorem setc_on {W : World} {g x : Nat} {u v : Value} (h : W.cell? ⟨g, x, none⟩ = some v) : (W.setCell ⟨g, x, none⟩ u).cell? ⟨g, x, none⟩ = some u := World.cell?_setCell_same _ _ _ h
theorem SpAt.store {W : World} {g o : Nat} {p q : Or.P3} (h : SpAt W g o p) : SpAt (((W.setCell ⟨g, o, none⟩ (.int .i64 q.x)).setCell ⟨g, o + 1, none⟩ (.int .i64 q.y)).setCell ⟨g, o + 2, none⟩ (.int .i64 q.z)) g o q := by
  have c1 : (W.setCell ⟨g, o, none⟩ (.int .i64 q.x)).cell? ⟨g, o + 1, none⟩ = some (.int .i64 p.y) := (setc_off (.inr (by omega))).trans h.c1
  have c2 : ((W.setCell ⟨g, o, none⟩ (.int .i64 q.x)).setCell ⟨g, o + 1, none⟩ (.int .i64 q.y)).cell? ⟨g, o + 2, none⟩ = some (.int .i64 p.z) :=
    (setc_off (.inr (by omega))).trans ((setc_off (.inr (by omega))).trans h.c2)
  exact ⟨(setc_off (.inr (by omega))).trans ((setc_off (.inr (by omega))).trans (setc_on h.c0)), (setc_off (.inr (by omega))).trans (setc_on c1), setc_on c2⟩
theorem SpAt.apart {W : World} {b g o o2 : Nat} {p q : Or.P3} (h : SpAt W b o2 p) (hne : b ≠ g ∨ o2 + 2 < o ∨ o + 2 < o2) : SpAt (((W.setCell ⟨g, o, none⟩ (.int .i64 q.x)).setCell ⟨g, o + 1, none⟩ (.int .i64 q.y)).setCell ⟨g, o + 2, none⟩ (.int .i64 q.z)) b o2 p :=
  ⟨(setc_off (by omega)).trans ((setc_off (by omega)).trans ((setc_off (by omega)).trans h.c0)), (setc_off (by omega)).trans ((setc_off (by omega)).trans ((setc_off (by omega)).trans h.c1)),
    (setc_off (by omega)).trans ((setc_off (by omega)).trans ((setc_off (by omega)).trans h.c2))⟩
theorem MvM.put {w W : World} {gd g o i : Nat} (h : MvM w W gd g o ls d bs i) (hi : i < ls.length) (hg : w.heap.size ≤ g) (hgd : gd ≠ g) {q : Or.P3} (hq : q = mv d (Or.at_ ls i) (kOf bs i)) :
    MvM w (((W.setCell ⟨g, o + i * 3, none⟩ (.int .i64 q.x)).setCell ⟨g, o + i * 3 + 1, none⟩ (.int .i64 q.y)).setCell ⟨g, o + i * 3 + 2, none⟩ (.int .i64 q.z)) gd g o ls d bs (i + 1) := by
  refine ⟨h.u.apart (.inl hgd), fun a ha => ?_, fun k => by simp [h.f k], ((h.w.cel hg _).cel hg _).cel hg _⟩
  unfold mvA
  by_cases e : a = i
  · subst e
    rw [if_pos (Nat.lt_succ_self a), ← hq]
    exact (h.pt ha).store
  · have := (h.m a ha).apart (g := g) (o := o + i * 3) (q := q) (.inr (by omega))
    unfold mvA at this
    by_cases e2 : a < i
    · rw [if_pos e2] at this
      rw [if_pos (by omega)]
      exact this
    · rw [if_neg e2] at this
      rw [if_neg (by omega)]
      exact this
theorem SpAt.rx {W : World} {g o : Nat} {m : List Or.P3} (h : ∀ a, a < m.length → SpAt W g (o + a * 3) (Or.at_ m a)) : RX W g o m := by
  intro i hi j hj
  have := h i hi
  rw [Or.at_get hi] at this
  obtain ⟨c0, c1, c2⟩ := this
  match j, hj with
  | 0, _ => exact c0
  | 1, _ => exact c1
  | 2, _ => exact c2
theorem MvM.fin {w W : World} {gd g o : Nat} (h : MvM w W gd g o ls d bs ls.length) (h0 : 0 < ls.length) (cap : Nat) : SlX W (.slice (some ⟨g, o, none⟩) ls.length cap) (slM ls d bs) := by
  refine .inr ⟨g, o, cap, by rw [slM_len], SpAt.rx fun a ha => ?_, (h.m 0 h0).lt⟩
  rw [slM_len] at ha
  rw [slM_at ha]
  have := h.m a ha
  unfold mvA at this
  rwa [if_pos ha] at this
theorem OwX.at3 {e : TypeId} {w : World} {base : Nat} {v : Value} {ls : List Or.P3} (h : OwX e w base v ls) (h0 : 0 < ls.length) : ∃ g o cap, v = .slice (some ⟨g, o, none⟩) ls.length cap ∧ base ≤ g ∧ (∀ k, w.frozen? ⟨g, k, none⟩ = false) ∧ ∀ a, a < ls.length → SpAt w g (o + a * 3) (Or.at_ ls a) := by
  have hs := h.sl
  obtain ⟨h1, h2⟩ := h
  rcases h2 with ⟨rfl, h2⟩ | ⟨g, cap, cur, rfl, e2, e3, e4⟩
  · omega
  · refine ⟨g, 0, cap, rfl, e2, fun k => free_row e3 k, fun a ha => ?_⟩
    rcases hs with ⟨_, _, _, h3⟩ | ⟨b, off, cap', h3, h4, h5⟩
    · rw [h3] at h0; simp at h0
    · injection h3 with q1 q2 q3
      injection q1 with q1
      injection q1 with q1 q4
      subst q1 q4
      exact h4.spAt ha
end
end Go.Proofs.Wk
