/- SQUARENESS: the least and the greatest product. -/
import Derived.Test.YtcdjhgkeehhaaaaGreatDoorOD
import Derived.Test.YtcdjhgkeehhaaaaGreatDoorNE
namespace Go.Proofs.Wk
open Go.RowKit Mt

section
variable {P : Program} {fn : Func} {t u v p : Tmp} {ty : TypeId} {tmps : Array Value} {w : World} {g : Nat} {T : TypeId} {cs : Array Value} {fr : Nat × Nat} {d : TypeDesc}
theorem res_ttc (h : fn.results = #[.tmp u, .tmp t, .cell p ty]) (hp : tmps.getD p undef = .pointer (some ⟨g, 0, none⟩)) (hg : w.heap[g]? = some (.cells cs T fr))
    (hu : P.underlying ty = some d) (hd : (match d with | .struct _ | .array _ _ => true | _ => false) = true) (hi : (P.info? ty).map (·.size) = some cs.size) {x y : Value} (hx : tmps.getD u undef = x) (hy : tmps.getD t undef = y) :
    (results fn tmps).run P w = .ok (.tuple #[x, y, .agg cs]) w := by
  rw [Array.getD_eq_getD_getElem?] at hp hx hy
  simp [results, h, hp, hx, hy, asAddr, Result.andThen, run_loadVar_row w g T ty cs fr d hg hu hd hi]
end
theorem ed_drop {l : List Int} {k : Nat} (hk : k < l.length) (s : Or.Ed) : Or.edF (l.drop k) k s = Or.edF (l.drop (k + 1)) (k + 1) (Or.edS k (l.getD k 0) s) := by
  rw [List.drop_eq_getElem_cons hk, Or.edF, List.getD_eq_getElem?_getD, List.getElem?_eq_getElem hk]; rfl
theorem edS_lo {k : Nat} {n : Int} {s : Or.Ed} (h : n < s.low) : Or.edS k n s = ⟨n, s.high, k, s.a1⟩ := if_pos h
theorem edS_hi {k : Nat} {n : Int} {s : Or.Ed} (h : ¬ n < s.low) (h2 : s.high < n) : Or.edS k n s = ⟨s.low, n, s.a0, k⟩ := (if_neg h).trans (if_pos h2)
theorem edS_no {k : Nat} {n : Int} {s : Or.Ed} (h : ¬ n < s.low) (h2 : ¬ s.high < n) : Or.edS k n s = s := (if_neg h).trans (if_neg h2)
/-- What is in memory while ends are looked for. -/
structure EdM (w W : World) (g : Nat) (a0 a1 : Nat) : Prop where
  r : W.heap[w.heap.size]? = some (.cells #[.int .i64 0, .int .i64 0] 28 (0, 0))
  o : W.heap[g]? = some (.cells #[.int .i64 (a0 : Int), .int .i64 (a1 : Int)] 28 (0, 0))
  w : Below w.heap.size w W
theorem EdM.later {w W W' : World} {g a0 a1 : Nat} (h : EdM w W g a0 a1) (hb : Below W.heap.size W W') : EdM w W' g a0 a1 := ⟨keepD h.r hb, keepD h.o hb, h.w.nx hb⟩
theorem EdM.set0 {w W : World} {g a0 a1 : Nat} (h : EdM w W g a0 a1) (hg : w.heap.size < g) (k : Nat) : EdM w (W.setCell ⟨g, 0, none⟩ (.int .i64 (k : Int))) g k a1 :=
  ⟨(heap_setCell_other _ _ _ _ (by simp only; omega)).trans h.r, heap_setCell_same _ _ 0 _ _ (.int .i64 (k : Int)) h.o, h.w.cel (Nat.le_of_lt hg) _⟩
theorem EdM.set1 {w W : World} {g a0 a1 : Nat} (h : EdM w W g a0 a1) (hg : w.heap.size < g) (k : Nat) : EdM w (W.setCell ⟨g, 1, none⟩ (.int .i64 (k : Int))) g a0 k :=
  ⟨(heap_setCell_other _ _ _ _ (by simp only; omega)).trans h.r, heap_setCell_same _ _ 1 _ _ (.int .i64 (k : Int)) h.o, h.w.cel (Nat.le_of_lt hg) _⟩
theorem edM_new (w w2 : World) (hz : w2.heap[w.heap.size]? = some (.cells #[.int .i64 0, .int .i64 0] 28 (0, 0))) (hb : Below w.heap.size w w2) :
    EdM w (w2.alloc (.cells #[.int .i64 0, .int .i64 0] 28)) w2.heap.size 0 0 :=
  ⟨keepD hz (below_al w2 _), heap_alloc_new w2 _, hb.nx (below_al w2 _)⟩
abbrev edV (e : Or.Ed) : Value := .tuple #[.int .i64 e.low, .int .i64 e.high, .agg #[.int .i64 (e.a0 : Int), .int .i64 (e.a1 : Int)]]
set_option maxRecDepth 100000 in
set_option maxHeartbeats 2000000 in
theorem ends_z (l : List Int) (n : Nat) (c1 c2 c3 : Value) (w : World) (hl : l.length = n) (h0 : 0 < n) (hn : n ≤ 1000)
    (HF0 : ∀ i, i < n → ∀ W, Below w.heap.size w W → Calls Tryz.prog 31 #[.int .i64 (i : Int), c1, c2, c3] W (Ret W (.int .i64 (l.getD i 0)))) :
    Calls Tryz.prog 30 #[.int .i64 (n : Int), .func (.func 31) #[] #[c1, c2, c3]] w (Ret w (edV (Or.ends l))) := by
  have HF := Lib.hid HF0
  have HFZ := Lib.hid (fun W (h : Below w.heap.size w W) => show Calls Tryz.prog 31 #[.int .i64 0, c1, c2, c3] W (Ret W (.int .i64 (l.getD 0 0))) from HF0 0 h0 W h)
  have hE : Or.edF (l.drop 0) 0 ⟨l.getD 0 0, l.getD 0 0, 0, 0⟩ = Or.ends l := by unfold Or.ends; cases l <;> rfl
  have HST := Lib.hid (fun k (hk : k < n) s => ed_drop (l := l) (k := k) (by omega) s)
  have HEN := Lib.hid (fun s => show Or.edF (l.drop n) n s = s by rw [← hl, List.drop_length]; rfl)
  generalize Or.ends l = E at *
  generalize hm0 : l.getD 0 0 = m at *
  have HE := Lib.hid hE
  have hA := below_al w (.cells #[.int .i64 0, .int .i64 0] 28)
  have hz := heap_alloc_new w (.cells #[.int .i64 0, .int .i64 0] 28)
  clear hE HF0 hm0 hl
  go_enter Tryz.func30, Tryz.ntmps30
  go_wp2_with fail
  ((with_reducible refine (HFZ.out _ hA).mono ?_); rintro e w1 ⟨rfl, hb1⟩)
  have hB1 := hA.nx hb1
  have hz1 := keepD hz hb1
  clear hA hz hb1
  go_wp2_with fail
  ((with_reducible refine (HFZ.out _ hB1).mono ?_); rintro e w2 ⟨rfl, hb2⟩)
  have hB2 := hB1.nx hb2
  have hz2 := keepD hz1 hb2
  have HM := Lib.hid (edM_new w w2 hz2 hB2)
  have HG := Lib.hid (show w.heap.size < w2.heap.size from (Array.getElem?_eq_some_iff.1 hz2).1)
  clear hB1 hz1 hb2 hB2 hz2
  go_wp2_with fail
  generalize w2.alloc (.cells #[.int .i64 0, .int .i64 0] 28) = w3 at *
  generalize w2.heap.size = g at *
  go_loopw [7, 8, 18] (fun sl sh si wr => ∃ (i : Nat) (s : Or.Ed), sl = .int .i64 s.low ∧ sh = .int .i64 s.high ∧ si = .int .i64 (i : Int) ∧ i ≤ n ∧ Hid (Or.edF (l.drop i) i s = E) ∧ Hid (EdM w wr g s.a0 s.a1)) (fun _ _ si _ => n - (intOf si).toNat)
  case atStart => exact ⟨0, ⟨m, m, 0, 0⟩, rfl, rfl, rfl, Nat.zero_le _, HE.out, HM.out⟩
  case round =>
    obtain ⟨i, s, rfl, rfl, rfl, hi, hs, hI⟩ := hrel
    by_cases hlt : i < n
    · have HS := Lib.hid (hs.out.symm.trans (HST.out i hlt s))
      have HFI := Lib.hid (HF.out i hlt)
      generalize l.getD i 0 = p at *
      obtain ⟨low, high, a0, a1⟩ := s
      have hy := @edS_lo i p ⟨low, high, a0, a1⟩
      have hz := @edS_hi i p ⟨low, high, a0, a1⟩
      have hu := @edS_no i p ⟨low, high, a0, a1⟩
      simp only at hy hz hu hI ⊢
      have HI := Lib.hid hI.out
      clear hI hs
      rcases Int.lt_or_le p low with hp | hp
      · have HE2 := Lib.hid (show Or.edF (l.drop (i + 1)) (i + 1) ⟨p, high, i, a1⟩ = E by rw [← hy hp]; exact HS.out.symm)
        clear hy hz hu HS
        go_wp2_with fail
        ((with_reducible refine (HFI.out _ HI.out.w).mono ?_); rintro e w4 ⟨rfl, hb4⟩)
        have HI4 := Lib.hid (HI.out.later hb4)
        obtain ⟨k0, k1⟩ := c2row HI4.out.o
        have hf := fun k => free_row HI4.out.o k
        clear HI hb4
        go_wp2
        go_roundw
        case rel => exact ⟨i + 1, ⟨p, high, i, a1⟩, rfl, rfl, by go_num, by omega, HE2.out, HI4.out.set0 HG.out i⟩
        case measure => simp [intOf]; omega
      · have hnp : ¬ p < low := by omega
        rcases Int.lt_or_le high p with hq | hq
        · have HE2 := Lib.hid (show Or.edF (l.drop (i + 1)) (i + 1) ⟨low, p, a0, i⟩ = E by rw [← hz hnp hq]; exact HS.out.symm)
          clear hy hz hu HS
          go_wp2_with fail
          ((with_reducible refine (HFI.out _ HI.out.w).mono ?_); rintro e w4 ⟨rfl, hb4⟩)
          have HI4 := Lib.hid (HI.out.later hb4)
          obtain ⟨k0, k1⟩ := c2row HI4.out.o
          have hf := fun k => free_row HI4.out.o k
          clear HI hb4
          go_wp2
          go_roundw
          case rel => exact ⟨i + 1, ⟨low, p, a0, i⟩, rfl, rfl, by go_num, by omega, HE2.out, HI4.out.set1 HG.out i⟩
          case measure => simp [intOf]; omega
        · have hnq : ¬ high < p := by omega
          have HE2 := Lib.hid (show Or.edF (l.drop (i + 1)) (i + 1) ⟨low, high, a0, a1⟩ = E by rw [← hu hnp hnq]; exact HS.out.symm)
          clear hy hz hu HS
          go_wp2_with fail
          ((with_reducible refine (HFI.out _ HI.out.w).mono ?_); rintro e w4 ⟨rfl, hb4⟩)
          have HI4 := Lib.hid (HI.out.later hb4)
          clear HI hb4
          go_wp2
          go_roundw
          case rel => exact ⟨i + 1, ⟨low, high, a0, a1⟩, rfl, rfl, by go_num, by omega, HE2.out, HI4.out⟩
          case measure => simp [intOf]; omega
    · obtain rfl : i = n := by omega
      obtain rfl : s = E := (HEN.out s).symm.trans hs.out
      clear hs HE HM HST HEN HF HFZ
      obtain ⟨low, high, a0, a1⟩ := s
      obtain ⟨k0, k1⟩ := c2row hI.out.o
      obtain ⟨z0, z1⟩ := c2row hI.out.r
      have hf := fun k => free_row hI.out.r k
      have q1 : ¬ g = w.heap.size := by have := HG.out; omega
      have q2 : ¬ w.heap.size = g := by have := HG.out; omega
      have HI := Lib.hid hI.out
      clear hI
      go_wp2_with fail
      go_region
      all_goals
        go_wp2
        refine bodyPost_ret (res_ttc rfl (by kernel_rfl) (s2rowd HI.out.r) Tryz.underlying28 rfl (by kernel_rfl) rfl rfl) rfl ?_
        exact ⟨rfl, (b2row HI.out.w (Nat.le_refl _)).drew⟩
/-- A row of ints. -/
instance : Row Int where
  enc n := [.int .i64 n]
  k := 1
  len _ := rfl
  pos := by decide
  one a u hu := by
    obtain rfl := List.mem_singleton.1 hu
    rfl
theorem RX.int {w : World} {b off : Nat} {ls : List Int} (h : RX w b off ls) {i : Nat} (hi : i < ls.length) : w.cell? ⟨b, off + i, none⟩ = some (.int .i64 (ls.getD i 0)) := by
  have := h i hi 0 (by decide)
  rw [show Row.k Int = 1 from rfl, Nat.mul_one, Nat.add_zero] at this
  rw [List.getD_eq_getElem?_getD, List.getElem?_eq_getElem hi]
  exact this
theorem RX.intLater {w w' : World} {b off : Nat} {ls : List Int} (h : RX w b off ls) (hb : b < w.heap.size) (k : Below w.heap.size w w') {i : Nat} (hi : i < ls.length) : w'.cell? ⟨b, off + i, none⟩ = some (.int .i64 (ls.getD i 0)) := (h.later k hb).int hi
end Go.Proofs.Wk
/- SQUARENESS: the reference's ends, its zones along, beside and square to a direction. -/
namespace Go.Proofs.Wk
open Go.RowKit Mt

theorem edR_lo {k : Nat} {n : Int} {s : Or.Ed} (h : n < s.low) : Or.edS k n s = ⟨n, s.high, k, s.a1⟩ := edS_lo h
/-- What is in memory while the reference looks for ends. -/
structure EdS (w W : World) (g : Nat) (a0 a1 : Nat) (b off : Nat) (l : List Int) : Prop where
  m : EdM w W g a0 a1
  s : ∀ i, i < l.length → W.cell? ⟨b, off + i, none⟩ = some (.int .i64 (l.getD i 0))
theorem EdS.mk' {w W : World} {g a0 a1 b off : Nat} {l : List Int} (m : EdM w W g a0 a1) (hR : RX w b off l) (hb : b < w.heap.size) : EdS w W g a0 a1 b off l := ⟨m, fun _ hi => hR.intLater hb m.w hi⟩
end Go.Proofs.Wk
/- SQUARENESS: the reference's zones along, beside and square to a direction. -/
namespace Go.Proofs.Wk
open Go.RowKit Mt

/-- The width of ends over a squared length, with its proof. -/
abbrev zonV (e : Or.Ed) (D : Int) : Value := .tuple #[.string ⟨(rtoa (Rat.divInt ((e.high - e.low) * (e.high - e.low)) D)).toArray⟩, .agg #[.int .i64 (e.a0 : Int), .int .i64 (e.a1 : Int)]]
theorem EdM.drew {w W : World} {g a0 a1 : Nat} (h : EdM w W g a0 a1) : EdM w W.drew g a0 a1 := ⟨h.r, h.o, h.w.drew⟩
theorem EdM.t {w W : World} {g a0 a1 : Nat} (h : EdM w W g a0 a1) : W.cell? ⟨g, 0, none⟩ = some (.int .i64 (a0 : Int)) ∧ W.cell? ⟨g, 1, none⟩ = some (.int .i64 (a1 : Int)) ∧
    W.cell? ⟨w.heap.size, 0, none⟩ = some (.int .i64 0) ∧ W.cell? ⟨w.heap.size, 1, none⟩ = some (.int .i64 0) ∧ (∀ k, W.frozen? ⟨w.heap.size, k, none⟩ = false) ∧ EdM w W g a0 a1 :=
  ⟨(c2row h.o).1, (c2row h.o).2, (c2row h.r).1, (c2row h.r).2, fun k => free_row h.r k, h⟩
theorem edM_put (w w2 : World) (a0 a1 : Nat) (hz : w2.heap[w.heap.size]? = some (.cells #[.int .i64 0, .int .i64 0] 28 (0, 0))) (hb : Below w.heap.size w w2) :
    EdM w (w2.alloc (.cells #[.int .i64 (a0 : Int), .int .i64 (a1 : Int)] 28)) w2.heap.size a0 a1 :=
  ⟨keepD hz (below_al w2 _), heap_alloc_new w2 _, hb.nx (below_al w2 _)⟩
end Go.Proofs.Wk
