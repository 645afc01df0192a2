/- POSITION, IN THE REFERENCE: the numbers of a torsor, their check, whether they are short; a coordinate of a point. -/
import Derived.Test.YtdpjkfkmlaphhaaGreatDoorPE
import Derived.Deep.RegionHeld3
namespace Go.Proofs.Wk
open Go.RowKit Mt Po

/-- A slice of texts that a call made, with its place. -/
def NewT (w : World) (ls : List Txt) (e : Ending) (w' : World) : Prop := ∃ b off cap, e = .returned (.slice (some ⟨b, off, none⟩) ls.length cap) ∧ RS w' b off ls ∧ b < w'.heap.size ∧ Below w.heap.size w w'
set_option maxRecDepth 100000 in
set_option maxHeartbeats 1000000 in
theorem rnumbers_c (t : TT) (w : World) : Calls Tryz.prog 84 #[ttV t] w (NewT w t.l) := by
  obtain ⟨a0, a1, a2, b0, b1, b2⟩ := t
  go_enter Tryz.func84, Tryz.ntmps84
  go_wp2
  go_ret
  refine ⟨w.heap.size + 1, 0, 6, rfl, ?_, by simp [World.size_alloc], bx2 w _ _⟩
  have := RS.lit (w.alloc (.cells #[.string ⟨a0.toArray⟩, .string ⟨a1.toArray⟩, .string ⟨a2.toArray⟩, .string ⟨b0.toArray⟩, .string ⟨b1.toArray⟩, .string ⟨b2.toArray⟩] 38)) [a0, a1, a2, b0, b1, b2] 35
  rw [World.size_alloc] at this
  exact this
set_option maxRecDepth 100000 in
set_option maxHeartbeats 1000000 in
theorem r4numbers_c (b off c : Nat) (ls : List Txt) (w : World) (hR : RS w b off ls) (hl : b < w.heap.size) (hls : ls.length ≤ 140737488355328) (hlen : ∀ l ∈ ls, l.length ≤ 140737488355328) :
    Calls Tryz.prog 85 #[.slice (some ⟨b, off, none⟩) ls.length c] w (Ret w (.int .i64 (firstR ls))) := by
  have HR := Lib.hid hR; have HL := Lib.hid hlen
  obtain ⟨n, hnn⟩ : ∃ n, ls.length = n := ⟨_, rfl⟩
  rw [hnn] at hls ⊢
  have HN := Lib.hid hnn
  clear hnn hR hlen
  go_enter Tryz.func85, Tryz.ntmps85
  go_wp2_with fail
  go_loopw [3] (fun si wr => ∃ i : Nat, si = .int .i64 (i : Int) ∧ i ≤ n ∧ Hid (firstR (ls.drop i) = firstR ls) ∧ Below w.heap.size w wr) (fun si _ => n - (intOf si).toNat)
  case atStart => exact ⟨0, rfl, Nat.zero_le _, rfl, Below.refl _ _⟩
  case round =>
    obtain ⟨i, rfl, hi, hE, hB⟩ := hrel
    by_cases hlt : i < n
    · have hil : i < ls.length := by rw [HN.out]; exact hlt
      have hc := (HR.out.later hB hl) i hil
      have hd := firstR_drop hil
      have hll := HL.out ls[i] (List.getElem_mem hil)
      obtain ⟨l, hle⟩ : ∃ l, ls[i] = l := ⟨_, rfl⟩
      rw [hle] at hc hd hll
      have HC := Lib.hid (rqCheck_c l wr hll)
      have j1 : (i : Int) < (n : Int) := by omega
      by_cases h0 : rchk l = 0
      · rw [h0] at HC
        have HE := Lib.hid (show firstR (ls.drop (i + 1)) = firstR ls by rw [← hE.out, hd, if_pos h0])
        clear hle hd hll h0
        go_wp2_with fail
        ((with_reducible refine (HC.out).mono ?_); rintro e w2 ⟨rfl, hb2⟩)
        have hB2 := hB.trans (hb2.mono hB.size)
        go_wp2
        go_roundw
        case rel => exact ⟨i + 1, by go_num, by omega, HE, hB2⟩
        case measure => simp [intOf]; omega
      · have HE := Lib.hid (show firstR ls = rchk l by rw [← hE.out, hd, if_neg h0])
        have h3 := bne_ne h0
        clear hle hd hll h0
        obtain ⟨x, hx⟩ : ∃ x, rchk l = x := ⟨_, rfl⟩
        rw [hx] at HE HC h3
        clear hx
        go_wp2_with fail
        ((with_reducible refine (HC.out).mono ?_); rintro e w2 ⟨rfl, hb2⟩)
        have hB2 := hB.trans (hb2.mono hB.size)
        go_wp2
        go_ret
        rw [HE.out]
        exact ⟨rfl, hB2⟩
    · obtain rfl : i = n := by omega
      have HE := Lib.hid (show firstR ls = 0 by rw [← hE.out, ← HN.out, List.drop_length]; rfl)
      go_wp2
      go_ret
      rw [HE.out]
      exact ⟨rfl, hB⟩
set_option maxRecDepth 100000 in
set_option maxHeartbeats 1000000 in
theorem rtorCheck_c (t : TT) (w : World) (hl : ∀ l ∈ t.l, l.length ≤ 140737488355328) : Calls Tryz.prog 38 #[ttV t] w (Ret w (.int .i64 (ttE t))) := by
  have HN := Lib.hid (fun W => rnumbers_c t W)
  have HC := Lib.hid (fun (W : World) (b off c : Nat) (hr : RS W b off t.l) (hb : b < W.heap.size) => r4numbers_c b off c t.l W hr hb (by simp [TT.l]) hl)
  unfold ttE
  have hA := below_al w (.cells (ttC t) 38)
  generalize firstR t.l = E at *
  generalize t.l = L at *
  obtain ⟨a0, a1, a2, b0, b1, b2⟩ := t
  clear hl
  go_enter Tryz.func38, Tryz.ntmps38
  go_wp2_with fail
  ((with_reducible refine (HN.out _).mono ?_); rintro e w1 ⟨b, off, cap, rfl, hR1, hl1, hb1⟩)
  have hB1 := hA.nx hb1
  clear hA hb1
  go_wp2_with fail
  ((with_reducible refine (HC.out _ _ _ _ hR1 hl1).mono ?_); rintro e w2 ⟨rfl, hb2⟩)
  have hB2 := hB1.nx hb2
  clear hR1 hb2 hB1
  go_wp2
  go_ret
  exact ⟨rfl, hB2⟩
def shortL (ls : List Txt) : Bool := ls.all fun l => decide (l.length ≤ 24)
set_option maxRecDepth 100000 in
set_option maxHeartbeats 1000000 in
theorem r4short_c (b off c : Nat) (ls : List Txt) (w : World) (hR : RS w b off ls) (hl : b < w.heap.size) (h40 : ls.length ≤ 40) :
    Calls Tryz.prog 83 #[.slice (some ⟨b, off, none⟩) ls.length c] w (Ret w (.bool (shortL ls))) := by
  have HR := Lib.hid hR
  have HBAD := Lib.hid (fun i (hi : i < ls.length) (h : 24 < ls[i].length) => show shortL ls = false by
    unfold shortL
    rw [Bool.eq_false_iff]; intro q
    have := of_decide_eq_true (List.all_eq_true.1 q _ (List.getElem_mem hi))
    omega)
  have HOK := Lib.hid (fun (h : ∀ i (hi : i < ls.length), ls[i].length ≤ 24) => show shortL ls = true from List.all_eq_true.2 fun l hl => by
    obtain ⟨i, hi, rfl⟩ := List.getElem_of_mem hl
    exact decide_eq_true (h i hi))
  generalize shortL ls = B at *
  obtain ⟨n, hnn⟩ : ∃ n, ls.length = n := ⟨_, rfl⟩
  rw [hnn] at h40 ⊢
  have HN := Lib.hid hnn
  clear hnn hR
  go_enter Tryz.func83, Tryz.ntmps83
  go_wp2_with fail
  go_loopw [3] (fun si wr => ∃ i : Nat, si = .int .i64 (i : Int) ∧ i ≤ n ∧ Hid (∀ j, j < i → ∀ (hj : j < ls.length), ls[j].length ≤ 24) ∧ Below w.heap.size w wr) (fun si _ => n - (intOf si).toNat)
  case atStart => exact ⟨0, rfl, Nat.zero_le _, fun j h => absurd h (Nat.not_lt_zero _), Below.refl _ _⟩
  case round =>
    obtain ⟨i, rfl, hi, hE, hB⟩ := hrel
    by_cases hlt : i < n
    · have hil : i < ls.length := by rw [HN.out]; exact hlt
      have hc := (HR.out.later hB hl) i hil
      have hbad := HBAD.out i hil
      have HST := Lib.hid (fun (h : ls[i].length ≤ 24) j (hj : j < i + 1) (hjl : j < ls.length) => show ls[j].length ≤ 24 by
        by_cases q : j = i
        · subst q; exact h
        · exact hE.out j (by omega) hjl)
      have j1 : (i : Int) < (n : Int) := by omega
      generalize ls[i] = l at *
      by_cases h : 24 < l.length
      · obtain rfl : B = false := hbad h
        have z : (24 : Int) < (l.length : Int) := by omega
        clear hbad HBAD HOK HST h
        go_wp2
        go_ret
        exact ⟨rfl, hB⟩
      · have z : ¬ (24 : Int) < (l.length : Int) := by omega
        have HS := Lib.hid (HST.out (by omega))
        clear hbad HST h
        go_wp2
        go_roundw
        case rel => exact ⟨i + 1, by go_num, by omega, HS.out, hB⟩
        case measure => simp [intOf]; omega
    · obtain rfl : i = n := by omega
      obtain rfl : B = true := HOK.out fun j hj => hE.out j (by rw [← HN.out]; exact hj) hj
      have z : (i : Int) ≤ 40 := by omega
      clear hE HBAD HOK
      go_wp2
      go_ret
      exact ⟨rfl, hB⟩
def ttS (t : TT) : Bool := shortL t.l
set_option maxRecDepth 100000 in
set_option maxHeartbeats 1000000 in
theorem rtorShort_c (t : TT) (w : World) : Calls Tryz.prog 37 #[ttV t] w (Ret w (.bool (ttS t))) := by
  have HN := Lib.hid (fun W => rnumbers_c t W)
  have HC := Lib.hid (fun (W : World) (b off c : Nat) (hr : RS W b off t.l) (hb : b < W.heap.size) => r4short_c b off c t.l W hr hb (by simp [TT.l]))
  unfold ttS
  have hA := below_al w (.cells (ttC t) 38)
  generalize shortL t.l = E at *
  generalize t.l = L at *
  obtain ⟨a0, a1, a2, b0, b1, b2⟩ := t
  go_enter Tryz.func37, Tryz.ntmps37
  go_wp2_with fail
  ((with_reducible refine (HN.out _).mono ?_); rintro e w1 ⟨b, off, cap, rfl, hR1, hl1, hb1⟩)
  have hB1 := hA.nx hb1
  clear hA hb1
  go_wp2_with fail
  ((with_reducible refine (HC.out _ _ _ _ hR1 hl1).mono ?_); rintro e w2 ⟨rfl, hb2⟩)
  have hB2 := hB1.nx hb2
  clear hR1 hb2 hB1
  go_wp2
  go_ret
  exact ⟨rfl, hB2⟩
/-- A short torsor without an error: its numbers. -/
theorem tt_ok {t : TT} (h1 : ttS t = true) (h2 : ttE t = 0) : ∃ q : TQ, t = tqT q ∧ ShT q := by
  have hs := List.all_eq_true.1 h1
  have hz : ∀ l ∈ t.l, rchk l = 0 := by
    obtain ⟨qs, e, hok⟩ := firstR_zero h2
    intro l hl
    rw [e] at hl
    obtain ⟨q, hq, rfl⟩ := List.mem_map.1 hl
    exact rchk_rtoa (hok q hq)
  have each : ∀ l ∈ t.l, rtoa (rv l) = l ∧ szV (rv l) 25 0 := fun l hl => by
    refine ⟨rtoa_rv (hz l hl), ?_⟩
    have := rpart_len l (hz l hl)
    have h24 := of_decide_eq_true (hs l hl)
    exact (this.mono (by omega)).v
  obtain ⟨a0, a1, a2, b0, b1, b2⟩ := t
  simp only [TT.l, List.mem_cons, List.not_mem_nil, or_false] at each
  have e0 := each a0 (by simp)
  have e1 := each a1 (by simp)
  have e2 := each a2 (by simp)
  have e3 := each b0 (by simp)
  have e4 := each b1 (by simp)
  have e5 := each b2 (by simp)
  exact ⟨⟨rv a0, rv a1, rv a2, rv b0, rv b1, rv b2⟩, by unfold tqT; rw [e0.1, e1.1, e2.1, e3.1, e4.1, e5.1], ⟨e0.2, e1.2, e2.2, e3.2, e4.2, e5.2⟩⟩
end Go.Proofs.Wk
/- POSITION, IN THE REFERENCE: the form of a coordinate, sums of products, where a point goes, the bounded axes. -/
namespace Go.Proofs.Wk
open Go.RowKit Mt Po

/-- The sum of the first k products of two lists. -/
def dtL (a b : Nat → Rat) : Nat → Rat
  | 0 => 0
  | k + 1 => dtL a b k + a k * b k
theorem on3 {w W : World} {g : Nat} {a b c : Value} {T : TypeId} (h : On w W g (.cells #[a, b, c] T (0, 0))) : W.cell? ⟨g, 0, none⟩ = some a ∧ W.cell? ⟨g, 1, none⟩ = some b ∧ W.cell? ⟨g, 2, none⟩ = some c ∧ On w W g (.cells #[a, b, c] T (0, 0)) := by
  obtain ⟨h1, h2, h3⟩ := c3row h.a
  exact ⟨h1, h2, h3, h⟩
/-- The form of a coordinate, as texts. -/
def rowL (p : Sp) (a : Nat) : List Txt := [rtoa ((frmF p a 0 : Int) : Rat), rtoa ((frmF p a 1 : Int) : Rat), rtoa ((frmF p a 2 : Int) : Rat), rtoa ((frmF p a 3 : Int) : Rat), rtoa ((frmF p a 4 : Int) : Rat), rtoa ((frmF p a 5 : Int) : Rat)]
theorem rtoa_0 : rtoa ((0 : Int) : Rat) = [48] := rtoa_zero
theorem rtoa_1 : rtoa ((1 : Int) : Rat) = [49] := by rw [rtoa_int]; decide +kernel
theorem neg_int (n : Int) : -(n : Rat) = ((-n : Int) : Rat) := by simp
end Go.Proofs.Wk
/- POSITION, IN THE REFERENCE: where a point goes, the bounded axes, the deviations of a point. -/
namespace Go.Proofs.Wk
open Go.RowKit Mt Po

theorem dtL_eq (c : Nat → Int) (q : Nat → Rat) : ∀ k, dtL (fun j => ((c j : Int) : Rat)) q k = dotF c q k
  | 0 => rfl
  | k + 1 => by unfold dtL dotF; rw [dtL_eq c q k]
/-- Six texts in new memory. -/
def New6 (w : World) (ls : List Txt) (e : Ending) (w' : World) : Prop := ∃ b off cap, e = .returned (.slice (some ⟨b, off, none⟩) 6 cap) ∧ RS w' b off ls ∧ b < w'.heap.size ∧ Below w.heap.size w w'
theorem rowL_at (p : Sp) (a : Nat) : ∀ k (hk : k < (rowL p a).length), (rowL p a)[k] = rtoa ((frmF p a k : Int) : Rat) := by
  intro k hk
  rcases six (show k < 6 from hk) with rfl | rfl | rfl | rfl | rfl | rfl <;> rfl
theorem tqT_at (t : TQ) : ∀ k (hk : k < (tqT t).l.length), (tqT t).l[k] = rtoa (tqF t k) := by
  intro k hk
  rcases six (show k < 6 from hk) with rfl | rfl | rfl | rfl | rfl | rfl <;> rfl
/-- The cells that are read while a point is moved. -/
theorem cells9 {w W : World} {g1 g2 : Nat} {a0 a1 a2 a3 a4 a5 b0 b1 b2 : Value} {t1 t2 : TypeId} (h : Tw w W g1 g2 (.cells #[a0, a1, a2, a3, a4, a5] t1 (0, 0)) (.cells #[b0, b1, b2] t2 (0, 0))) :
    W.cell? ⟨g1, 0, none⟩ = some a0 ∧ W.cell? ⟨g1, 1, none⟩ = some a1 ∧ W.cell? ⟨g1, 2, none⟩ = some a2 ∧ W.cell? ⟨g1, 3, none⟩ = some a3 ∧ W.cell? ⟨g1, 4, none⟩ = some a4 ∧ W.cell? ⟨g1, 5, none⟩ = some a5 ∧
      W.cell? ⟨g2, 0, none⟩ = some b0 ∧ W.cell? ⟨g2, 1, none⟩ = some b1 ∧ W.cell? ⟨g2, 2, none⟩ = some b2 ∧ Tw w W g1 g2 (.cells #[a0, a1, a2, a3, a4, a5] t1 (0, 0)) (.cells #[b0, b1, b2] t2 (0, 0)) := by
  obtain ⟨h0, h1, h2, h3, h4, h5⟩ := c6row h.a
  obtain ⟨k0, k1, k2⟩ := c3row h.b
  exact ⟨h0, h1, h2, h3, h4, h5, k0, k1, k2, h⟩
end Go.Proofs.Wk
/- POSITION, IN THE REFERENCE: the deviations of a point. -/
namespace Go.Proofs.Wk
open Go.RowKit Mt Po

/-- Three blocks that are kept. -/
structure Th (w W : World) (g1 g2 g3 : Nat) (o1 o2 o3 : Obj) : Prop where
  a : W.heap[g1]? = some o1
  b : W.heap[g2]? = some o2
  c : W.heap[g3]? = some o3
  w : Below w.heap.size w W
theorem Th.later {w W W' : World} {g1 g2 g3 : Nat} {o1 o2 o3 : Obj} (h : Th w W g1 g2 g3 o1 o2 o3) (hb : Below W.heap.size W W') : Th w W' g1 g2 g3 o1 o2 o3 := ⟨keepD h.a hb, keepD h.b hb, keepD h.c hb, h.w.nx hb⟩
theorem Th.new (w : World) (o1 o2 o3 : Array Value) (t1 t2 t3 : TypeId) : Th w (((w.alloc (.cells o1 t1)).alloc (.cells o2 t2)).alloc (.cells o3 t3)) w.heap.size (w.heap.size + 1) (w.heap.size + 1 + 1) (.cells o1 t1 (0, 0)) (.cells o2 t2 (0, 0)) (.cells o3 t3 (0, 0)) := by
  have h3 := heap_alloc_new ((w.alloc (.cells o1 t1)).alloc (.cells o2 t2)) (.cells o3 t3)
  rw [World.size_alloc, World.size_alloc] at h3
  exact ⟨keepD (heap_alloc_new w _) (bx2 _ _ _), keepD (nw2 w o1 o2 _ _) (below_al _ _), h3, bx3 w _ _ _⟩
theorem cells12 {w W : World} {g1 g2 g3 : Nat} {e0 e1 e2 e3 e4 e5 e6 e7 e8 a0 a1 a2 a3 a4 a5 b0 b1 b2 : Value} {t1 t2 t3 : TypeId} (h : Th w W g1 g2 g3 (.cells #[e0, e1, e2, e3, e4, e5, e6, e7, e8] t1 (0, 0)) (.cells #[a0, a1, a2, a3, a4, a5] t2 (0, 0)) (.cells #[b0, b1, b2] t3 (0, 0))) :
    W.cell? ⟨g1, 3, none⟩ = some e3 ∧ W.cell? ⟨g1, 4, none⟩ = some e4 ∧ W.cell? ⟨g1, 5, none⟩ = some e5 ∧ W.cell? ⟨g2, 0, none⟩ = some a0 ∧ W.cell? ⟨g2, 1, none⟩ = some a1 ∧ W.cell? ⟨g2, 2, none⟩ = some a2 ∧ W.cell? ⟨g2, 3, none⟩ = some a3 ∧ W.cell? ⟨g2, 4, none⟩ = some a4 ∧ W.cell? ⟨g2, 5, none⟩ = some a5 ∧
      W.cell? ⟨g3, 0, none⟩ = some b0 ∧ W.cell? ⟨g3, 1, none⟩ = some b1 ∧ W.cell? ⟨g3, 2, none⟩ = some b2 := by
  obtain ⟨-, -, -, d3, d4, d5, -, -, -⟩ := c9row h.a
  obtain ⟨h0, h1, h2, h3, h4, h5⟩ := c6row h.b
  obtain ⟨k0, k1, k2⟩ := c3row h.c
  exact ⟨d3, d4, d5, h0, h1, h2, h3, h4, h5, k0, k1, k2⟩
end Go.Proofs.Wk
