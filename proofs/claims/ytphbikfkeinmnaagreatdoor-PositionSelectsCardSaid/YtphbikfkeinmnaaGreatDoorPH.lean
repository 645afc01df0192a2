/- POSITION, IN THE REFERENCE: the numbers of a torsor, their check, whether they are short; a coordinate of a point. -/
import Derived.Test.YtphbikfkeinmnaaGreatDoorPE
import Derived.Deep.RegionHeld3
namespace Go.Proofs.Wk
open Go.RowKit Mt Po

/-- A slice of texts that a call made, with its place. -/
def NewT (w : World) (ls : List Txt) (e : Ending) (w' : World) : Prop := ∃ b off cap, e = .returned (.slice (some ⟨b, off, none⟩) ls.length cap) ∧ RS w' b off ls ∧ b < w'.heap.size ∧ Below w.heap.size w w'
set_option maxRecDepth 100000 in
set_option maxHeartbeats 1000000 in
theorem rnumbers_c (t : TT) (w : World) : Calls Tryz.prog 41 #[ttV t] w (NewT w t.l) := by
  obtain ⟨a0, a1, a2, b0, b1, b2⟩ := t
  go_enter Tryz.func41, Tryz.ntmps41
  go_wp2
  go_ret
  refine ⟨w.heap.size + 1, 0, 6, rfl, ?_, by simp [World.size_alloc], bx2 w _ _⟩
  have := RS.lit (w.alloc (.cells #[.string ⟨a0.toArray⟩, .string ⟨a1.toArray⟩, .string ⟨a2.toArray⟩, .string ⟨b0.toArray⟩, .string ⟨b1.toArray⟩, .string ⟨b2.toArray⟩] 38)) [a0, a1, a2, b0, b1, b2] 35
  rw [World.size_alloc] at this
  exact this
set_option maxRecDepth 100000 in
set_option maxHeartbeats 1000000 in
theorem r4numbers_c (b off c : Nat) (ls : List Txt) (w : World) (hR : RS w b off ls) (hl : b < w.heap.size) (hls : ls.length ≤ 140737488355328) (hlen : ∀ l ∈ ls, l.length ≤ 140737488355328) :
    Calls Tryz.prog 32 #[.slice (some ⟨b, off, none⟩) ls.length c] w (Ret w (.int .i64 (firstR ls))) := by
  have HR := Lib.hid hR; have HL := Lib.hid hlen
  obtain ⟨n, hnn⟩ : ∃ n, ls.length = n := ⟨_, rfl⟩
  rw [hnn] at hls ⊢
  have HN := Lib.hid hnn
  clear hnn hR hlen
  go_enter Tryz.func32, Tryz.ntmps32
  go_wp2_with fail
  go_loopw [3] (fun si wr => ∃ i : Nat, si = .int .i64 (i : Int) ∧ i ≤ n ∧ Hid (firstR (ls.drop i) = firstR ls) ∧ Below w.heap.size w wr) (fun si _ => n - (intOf si).toNat)
  case atStart => exact ⟨0, rfl, Nat.zero_le _, rfl, Below.refl _ _⟩
  case round =>
    obtain ⟨i, rfl, hi, hE, hB⟩ := hrel
    by_cases hlt : i < n
    · have hil : i < ls.length := by rw [HN.out]; exact hlt
      have hc := (HR.out.later hB hl) i hil
      have hd := firstR_drop hil
      have hll := HL.out ls[i] (List.getElem_mem hil)
      obtain ⟨l, hle⟩ : ∃ l, ls[i] = l := ⟨_, rfl⟩
      rw [hle] at hc hd hll
      have HC := Lib.hid (rqCheck_c l wr hll)
      have j1 : (i : Int) < (n : Int) := by omega
      by_cases h0 : rchk l = 0
      · rw [h0] at HC
        have HE := Lib.hid (show firstR (ls.drop (i + 1)) = firstR ls by rw [← hE.out, hd, if_pos h0])
        clear hle hd hll h0
        go_wp2_with fail
        ((with_reducible refine (HC.out).mono ?_); rintro e w2 ⟨rfl, hb2⟩)
        have hB2 := hB.trans (hb2.mono hB.size)
        go_wp2
        go_roundw
        case rel => exact ⟨i + 1, by go_num, by omega, HE, hB2⟩
        case measure => simp [intOf]; omega
      · have HE := Lib.hid (show firstR ls = rchk l by rw [← hE.out, hd, if_neg h0])
        have h3 := bne_ne h0
        clear hle hd hll h0
        obtain ⟨x, hx⟩ : ∃ x, rchk l = x := ⟨_, rfl⟩
        rw [hx] at HE HC h3
        clear hx
        go_wp2_with fail
        ((with_reducible refine (HC.out).mono ?_); rintro e w2 ⟨rfl, hb2⟩)
        have hB2 := hB.trans (hb2.mono hB.size)
        go_wp2
        go_ret
        rw [HE.out]
        exact ⟨rfl, hB2⟩
    · obtain rfl : i = n := by omega
      have HE := Lib.hid (show firstR ls = 0 by rw [← hE.out, ← HN.out, List.drop_length]; rfl)
      go_wp2
      go_ret
      rw [HE.out]
      exact ⟨rfl, hB⟩
set_option maxRecDepth 100000 in
set_option maxHeartbeats 1000000 in
theorem rtorCheck_c (t : TT) (w : World) (hl : ∀ l ∈ t.l, l.length ≤ 140737488355328) : Calls Tryz.prog 52 #[ttV t] w (Ret w (.int .i64 (ttE t))) := by
  have HN := Lib.hid (fun W => rnumbers_c t W)
  have HC := Lib.hid (fun (W : World) (b off c : Nat) (hr : RS W b off t.l) (hb : b < W.heap.size) => r4numbers_c b off c t.l W hr hb (by simp [TT.l]) hl)
  unfold ttE
  have hA := below_al w (.cells (ttC t) 38)
  generalize firstR t.l = E at *
  generalize t.l = L at *
  obtain ⟨a0, a1, a2, b0, b1, b2⟩ := t
  clear hl
  go_enter Tryz.func52, Tryz.ntmps52
  go_wp2_with fail
  ((with_reducible refine (HN.out _).mono ?_); rintro e w1 ⟨b, off, cap, rfl, hR1, hl1, hb1⟩)
  have hB1 := hA.nx hb1
  clear hA hb1
  go_wp2_with fail
  ((with_reducible refine (HC.out _ _ _ _ hR1 hl1).mono ?_); rintro e w2 ⟨rfl, hb2⟩)
  have hB2 := hB1.nx hb2
  clear hR1 hb2 hB1
  go_wp2
  go_ret
  exact ⟨rfl, hB2⟩
def shortL (ls : List Txt) : Bool := ls.all fun l => decide (l.length ≤ 24)
set_option maxRecDepth 100000 in
set_option maxHeartbeats 1000000 in
theorem r4short_c (b off c : Nat) (ls : List Txt) (w : World) (hR : RS w b off ls) (hl : b < w.heap.size) (h40 : ls.length ≤ 40) :
    Calls Tryz.prog 40 #[.slice (some ⟨b, off, none⟩) ls.length c] w (Ret w (.bool (shortL ls))) := by
  have HR := Lib.hid hR
  have HBAD := Lib.hid (fun i (hi : i < ls.length) (h : 24 < ls[i].length) => show shortL ls = false by
    unfold shortL
    rw [Bool.eq_false_iff]; intro q
    have := of_decide_eq_true (List.all_eq_true.1 q _ (List.getElem_mem hi))
    omega)
  have HOK := Lib.hid (fun (h : ∀ i (hi : i < ls.length), ls[i].length ≤ 24) => show shortL ls = true from List.all_eq_true.2 fun l hl => by
    obtain ⟨i, hi, rfl⟩ := List.getElem_of_mem hl
    exact decide_eq_true (h i hi))
  generalize shortL ls = B at *
  obtain ⟨n, hnn⟩ : ∃ n, ls.length = n := ⟨_, rfl⟩
  rw [hnn] at h40 ⊢
  have HN := Lib.hid hnn
  clear hnn hR
  go_enter Tryz.func40, Tryz.ntmps40
  go_wp2_with fail
  go_loopw [3] (fun si wr => ∃ i : Nat, si = .int .i64 (i : Int) ∧ i ≤ n ∧ Hid (∀ j, j < i → ∀ (hj : j < ls.length), ls[j].length ≤ 24) ∧ Below w.heap.size w wr) (fun si _ => n - (intOf si).toNat)
  case atStart => exact ⟨0, rfl, Nat.zero_le _, fun j h => absurd h (Nat.not_lt_zero _), Below.refl _ _⟩
  case round =>
    obtain ⟨i, rfl, hi, hE, hB⟩ := hrel
    by_cases hlt : i < n
    · have hil : i < ls.length := by rw [HN.out]; exact hlt
      have hc := (HR.out.later hB hl) i hil
      have hbad := HBAD.out i hil
      have HST := Lib.hid (fun (h : ls[i].length ≤ 24) j (hj : j < i + 1) (hjl : j < ls.length) => show ls[j].length ≤ 24 by
        by_cases q : j = i
        · subst q; exact h
        · exact hE.out j (by omega) hjl)
      have j1 : (i : Int) < (n : Int) := by omega
      generalize ls[i] = l at *
      by_cases h : 24 < l.length
      · obtain rfl : B = false := hbad h
        have z : (24 : Int) < (l.length : Int) := by omega
        clear hbad HBAD HOK HST h
        go_wp2
        go_ret
        exact ⟨rfl, hB⟩
      · have z : ¬ (24 : Int) < (l.length : Int) := by omega
        have HS := Lib.hid (HST.out (by omega))
        clear hbad HST h
        go_wp2
        go_roundw
        case rel => exact ⟨i + 1, by go_num, by omega, HS.out, hB⟩
        case measure => simp [intOf]; omega
    · obtain rfl : i = n := by omega
      obtain rfl : B = true := HOK.out fun j hj => hE.out j (by rw [← HN.out]; exact hj) hj
      have z : (i : Int) ≤ 40 := by omega
      clear hE HBAD HOK
      go_wp2
      go_ret
      exact ⟨rfl, hB⟩
def ttS (t : TT) : Bool := shortL t.l
set_option maxRecDepth 100000 in
set_option maxHeartbeats 1000000 in
theorem rtorShort_c (t : TT) (w : World) : Calls Tryz.prog 12 #[ttV t] w (Ret w (.bool (ttS t))) := by
  have HN := Lib.hid (fun W => rnumbers_c t W)
  have HC := Lib.hid (fun (W : World) (b off c : Nat) (hr : RS W b off t.l) (hb : b < W.heap.size) => r4short_c b off c t.l W hr hb (by simp [TT.l]))
  unfold ttS
  have hA := below_al w (.cells (ttC t) 38)
  generalize shortL t.l = E at *
  generalize t.l = L at *
  obtain ⟨a0, a1, a2, b0, b1, b2⟩ := t
  go_enter Tryz.func12, Tryz.ntmps12
  go_wp2_with fail
  ((with_reducible refine (HN.out _).mono ?_); rintro e w1 ⟨b, off, cap, rfl, hR1, hl1, hb1⟩)
  have hB1 := hA.nx hb1
  clear hA hb1
  go_wp2_with fail
  ((with_reducible refine (HC.out _ _ _ _ hR1 hl1).mono ?_); rintro e w2 ⟨rfl, hb2⟩)
  have hB2 := hB1.nx hb2
  clear hR1 hb2 hB1
  go_wp2
  go_ret
  exact ⟨rfl, hB2⟩
/-- A short torsor without an error: its numbers. -/
theorem tt_ok {t : TT} (h1 : ttS t = true) (h2 : ttE t = 0) : ∃ q : TQ, t = tqT q ∧ ShT q := by
  have hs := List.all_eq_true.1 h1
  have hz : ∀ l ∈ t.l, rchk l = 0 := by
    obtain ⟨qs, e, hok⟩ := firstR_zero h2
    intro l hl
    rw [e] at hl
    obtain ⟨q, hq, rfl⟩ := List.mem_map.1 hl
    exact rchk_rtoa (hok q hq)
  have each : ∀ l ∈ t.l, rtoa (rv l) = l ∧ szV (rv l) 25 0 := fun l hl => by
    refine ⟨rtoa_rv (hz l hl), ?_⟩
    have := rpart_len l (hz l hl)
    have h24 := of_decide_eq_true (hs l hl)
    exact (this.mono (by omega)).v
  obtain ⟨a0, a1, a2, b0, b1, b2⟩ := t
  simp only [TT.l, List.mem_cons, List.not_mem_nil, or_false] at each
  have e0 := each a0 (by simp)
  have e1 := each a1 (by simp)
  have e2 := each a2 (by simp)
  have e3 := each b0 (by simp)
  have e4 := each b1 (by simp)
  have e5 := each b2 (by simp)
  exact ⟨⟨rv a0, rv a1, rv a2, rv b0, rv b1, rv b2⟩, by unfold tqT; rw [e0.1, e1.1, e2.1, e3.1, e4.1, e5.1], ⟨e0.2, e1.2, e2.2, e3.2, e4.2, e5.2⟩⟩
set_option maxRecDepth 100000 in
set_option maxHeartbeats 1000000 in
theorem rcoord_c (k : Nat) (hk : k < 3) (p : Sp) (w : World) : Calls Tryz.prog 86 #[.int .i64 (k : Int), spV p] w (Ret w (.int .i64 (co p k))) := by
  have hix := co_run p hk
  have hA := below_al w (.cells #[.int .i64 p.x, .int .i64 p.y, .int .i64 p.z] 23)
  obtain ⟨x, y, z⟩ := p
  generalize co ⟨x, y, z⟩ k = c at *
  go_enter Tryz.func86, Tryz.ntmps86
  go_wp2
  go_ret
  exact ⟨rfl, hA⟩
end Go.Proofs.Wk
/- POSITION, IN THE REFERENCE: the form of a coordinate, sums of products, where a point goes, the bounded axes. -/
namespace Go.Proofs.Wk
open Go.RowKit Mt Po

/-- The sum of the first k products of two lists. -/
def dtL (a b : Nat → Rat) : Nat → Rat
  | 0 => 0
  | k + 1 => dtL a b k + a k * b k
set_option maxRecDepth 100000 in
set_option maxHeartbeats 2000000 in
theorem rDot_c (b1 o1 c1 b2 o2 c2 : Nat) (a b : Nat → Rat) (la lb : List Txt) (w : World) (hR : RS w b1 o1 la) (hl1 : b1 < w.heap.size) (hR2 : RS w b2 o2 lb) (hl2 : b2 < w.heap.size) (hla : la.length = 6) (hlb : lb.length = 6)
    (ha : ∀ k (hk : k < la.length), la[k] = rtoa (a k)) (hb : ∀ k (hk : k < lb.length), lb[k] = rtoa (b k)) (sa : ∀ k, k < 6 → szQ (a k) 200) (sb : ∀ k, k < 6 → szQ (b k) 200) (sd : ∀ k, k ≤ 6 → szQ (dtL a b k) 1000) :
    Calls Tryz.prog 132 #[.slice (some ⟨b1, o1, none⟩) 6 c1, .slice (some ⟨b2, o2, none⟩) 6 c2] w (Ret w (.string ⟨(rtoa (dtL a b 6)).toArray⟩)) := by
  have H1 := Lib.hid (fun (W : World) (h : Below w.heap.size w W) k (hk : k < 6) => by have := (hR.later h hl1) k (by omega); rw [ha k (by omega)] at this; exact this)
  have H2 := Lib.hid (fun (W : World) (h : Below w.heap.size w W) k (hk : k < 6) => by have := (hR2.later h hl2) k (by omega); rw [hb k (by omega)] at this; exact this)
  have HM := Lib.hid (fun k (hk : k < 6) W => Times_q (a k) (b k) W ((sa k hk).mono (by omega)) ((sb k hk).mono (by omega)))
  have HP := Lib.hid (fun k (hk : k < 6) W => by
    have := Plus_q (dtL a b k) (a k * b k) W ((sd k (by omega)).mono (by omega)) ((szQ_mul (sa k hk) (sb k hk)).mono (by omega))
    rwa [show dtL a b k + a k * b k = dtL a b (k + 1) from rfl] at this)
  have H0 := Lib.hid (show rtoa (dtL a b 0) = [48] from rtoa_zero)
  clear hR hR2 hl1 hl2 hla hlb ha hb sa sb sd
  go_enter Tryz.func132, Tryz.ntmps132
  go_wp2_with fail
  go_loopw [5, 6] (fun ss si wr => ∃ k : Nat, si = .int .i64 (k : Int) ∧ k ≤ 6 ∧ ss = .string ⟨(rtoa (dtL a b k)).toArray⟩ ∧ Hid (Below w.heap.size w wr)) (fun _ si _ => 6 - (intOf si).toNat)
  case atStart => exact ⟨0, rfl, Nat.zero_le _, by rw [H0.out], Below.refl _ _⟩
  case round =>
    obtain ⟨k, rfl, hk, rfl, hB⟩ := hrel
    by_cases hlt : k < 6
    · have k1 := H1.out _ hB.out k hlt
      have k2 := H2.out _ hB.out k hlt
      have K1 := Lib.hid (fun W h => H1.out W h k hlt)
      have K2 := Lib.hid (fun W h => H2.out W h k hlt)
      have HM1 := Lib.hid (fun W => HM.out k hlt W)
      have HP1 := Lib.hid (fun W => HP.out k hlt W)
      obtain ⟨tn, htn⟩ : ∃ t, rtoa (dtL a b (k + 1)) = t := ⟨_, rfl⟩
      rw [htn] at HP1
      have HTN := Lib.hid htn
      clear htn
      generalize rtoa (a k * b k) = tm at *
      generalize rtoa (a k) = ta at *
      generalize rtoa (b k) = tb at *
      generalize rtoa (dtL a b k) = ts at *
      have i1 : (k : Int) < 6 := by omega
      have i0 : (0 : Int) ≤ (k : Int) := by omega
      go_upto_region 5 with fail
      go_region_held3 (fun w' => w'.cell? ⟨b1, o1 + k, none⟩ = some (.string ⟨ta.toArray⟩) ∧ w'.cell? ⟨b2, o2 + k, none⟩ = some (.string ⟨tb.toArray⟩) ∧ Below w.heap.size w w')
        (first | with_reducible exact ⟨K1.out _ B4, K2.out _ B4, B4⟩ | with_reducible exact ⟨K1.out _ B3, K2.out _ B3, B3⟩ | with_reducible exact ⟨k1, k2, hB.out⟩ | with_reducible exact ⟨K1.out _ hB.out.drew, K2.out _ hB.out.drew, hB.out.drew⟩)
        (first
          | (go_at_call 70; (with_reducible refine (HM1.out _).mono ?_); rintro e w3 ⟨rfl, hb3⟩; (first | have B3 := hB.out.drew.nx hb3 | have B3 := hB.out.nx hb3))
          | (go_at_call 71; (with_reducible refine (HP1.out _).mono ?_); rintro e w4 ⟨rfl, hb4⟩; (first | have B4 := B3.nx hb4 | have B4 := B3.drew.nx hb4))
          | fail)
      all_goals
        have HB4 := Lib.hid B4
        clear k1 k2 hb3 hb4 B3 B4 hB
        go_wp2
        go_roundw
        case rel => exact ⟨k + 1, by go_num, by omega, by rw [HTN.out], HB4.out⟩
        case measure => simp [intOf]; omega
    · obtain rfl : k = 6 := by omega
      have hZ := hB.out
      go_wp2
      go_ret
      exact ⟨rfl, hZ⟩
theorem on3 {w W : World} {g : Nat} {a b c : Value} {T : TypeId} (h : On w W g (.cells #[a, b, c] T (0, 0))) : W.cell? ⟨g, 0, none⟩ = some a ∧ W.cell? ⟨g, 1, none⟩ = some b ∧ W.cell? ⟨g, 2, none⟩ = some c ∧ On w W g (.cells #[a, b, c] T (0, 0)) := by
  obtain ⟨h1, h2, h3⟩ := c3row h.a
  exact ⟨h1, h2, h3, h⟩
/-- The form of a coordinate, as texts. -/
def rowL (p : Sp) (a : Nat) : List Txt := [rtoa ((frmF p a 0 : Int) : Rat), rtoa ((frmF p a 1 : Int) : Rat), rtoa ((frmF p a 2 : Int) : Rat), rtoa ((frmF p a 3 : Int) : Rat), rtoa ((frmF p a 4 : Int) : Rat), rtoa ((frmF p a 5 : Int) : Rat)]
theorem rtoa_0 : rtoa ((0 : Int) : Rat) = [48] := rtoa_zero
theorem rtoa_1 : rtoa ((1 : Int) : Rat) = [49] := by rw [rtoa_int]; decide +kernel
theorem neg_int (n : Int) : -(n : Rat) = ((-n : Int) : Rat) := by simp
set_option maxRecDepth 100000 in
set_option maxHeartbeats 4000000 in
theorem rrow0_c (p : Sp) (w : World) (hp : InP p) : Calls Tryz.prog 133 #[.int .i64 0, spV p] w (NewT w (rowL p 0)) := by
  have HW := Lib.hid (fun (n : Int) (h : -100000 ≤ n ∧ n ≤ 100000) W => rwholeR n W (by omega))
  have hp0 := hp
  obtain ⟨⟨x0, x1⟩, ⟨y0, y1⟩, ⟨z0, z1⟩⟩ := hp
  have HX := Lib.hid (fun W => HW.out p.x ⟨x0, x1⟩ W)
  have HY := Lib.hid (fun W => HW.out p.y ⟨y0, y1⟩ W)
  have HZ := Lib.hid (fun W => HW.out p.z ⟨z0, z1⟩ W)
  have HT := Lib.hid (fun W => by
    have := Turned_q ((p.y : Int) : Rat) W ((szV_co (n := p.y) ⟨y0, y1⟩).s19 (by omega))
    rwa [neg_int] at this)
  have hJ : On w (w.alloc (.cells #[.int .i64 p.x, .int .i64 p.y, .int .i64 p.z] 23)) w.heap.size (.cells #[.int .i64 p.x, .int .i64 p.y, .int .i64 p.z] 23 (0, 0)) := ⟨heap_alloc_new w _, below_al w _⟩
  have hres : rowL p 0 = [[49], [48], [48], [48], rtoa ((p.z : Int) : Rat), rtoa ((-p.y : Int) : Rat)] := by unfold rowL; simp only [frmF, rtoa_0, rtoa_1]
  rw [hres]
  clear hres HW hp0 x0 x1 y0 y1 z0 z1
  generalize rtoa ((-p.y : Int) : Rat) = tn at *
  generalize rtoa ((p.x : Int) : Rat) = tx at *
  generalize rtoa ((p.y : Int) : Rat) = ty at *
  generalize rtoa ((p.z : Int) : Rat) = tz at *
  obtain ⟨x, y, z⟩ := p
  simp only at hJ HX HY HZ
  go_enter Tryz.func133, Tryz.ntmps133
  go_upto_region 1 with fail
  generalize hW0 : w.alloc (.cells #[.int .i64 x, .int .i64 y, .int .i64 z] 23) = W0 at *
  clear hW0
  have HJ := Lib.hid hJ
  clear hJ
  go_region_held3 (fun w' => w'.cell? ⟨w.heap.size, 0, none⟩ = some (.int .i64 x) ∧ w'.cell? ⟨w.heap.size, 1, none⟩ = some (.int .i64 y) ∧ w'.cell? ⟨w.heap.size, 2, none⟩ = some (.int .i64 z) ∧ On w w' w.heap.size (.cells #[.int .i64 x, .int .i64 y, .int .i64 z] 23 (0, 0)))
    (first | with_reducible exact on3 J3 | with_reducible exact on3 J2 | with_reducible exact on3 J1 | with_reducible exact on3 HJ.out | with_reducible exact on3 HJ.out.drew)
    (first
      | (go_at_call 29; (first
          | ((with_reducible refine (HX.out _).mono ?_); rintro e v1 ⟨rfl, hb1⟩; (first | have J1 := HJ.out.drew.later hb1 | have J1 := HJ.out.later hb1))
          | ((with_reducible refine (HY.out _).mono ?_); rintro e v2 ⟨rfl, hb2⟩; have J2 := J1.later hb2)
          | ((with_reducible refine (HZ.out _).mono ?_); rintro e v3 ⟨rfl, hb3⟩; have J3 := J2.later hb3)))
      | fail)
  all_goals
    have HJ3 := Lib.hid J3
    clear J1 J2 J3 hb1 hb2 hb3
    go_wp2_with fail
    ((with_reducible refine (HT.out _).mono ?_); rintro e v4 ⟨rfl, hb4⟩)
    have HJ4 := Lib.hid (HJ3.out.later hb4)
    go_wp2
    go_ret
    exact ⟨v4.heap.size, 0, 6, rfl, RS.lit v4 [[49], [48], [48], [48], tz, tn] 35, alloc_lt v4 _, HJ4.out.w.nx (below_al v4 _)⟩
set_option maxRecDepth 100000 in
set_option maxHeartbeats 4000000 in
theorem rrow1_c (p : Sp) (w : World) (hp : InP p) : Calls Tryz.prog 133 #[.int .i64 1, spV p] w (NewT w (rowL p 1)) := by
  have HW := Lib.hid (fun (n : Int) (h : -100000 ≤ n ∧ n ≤ 100000) W => rwholeR n W (by omega))
  have hp0 := hp
  obtain ⟨⟨x0, x1⟩, ⟨y0, y1⟩, ⟨z0, z1⟩⟩ := hp
  have HX := Lib.hid (fun W => HW.out p.x ⟨x0, x1⟩ W)
  have HY := Lib.hid (fun W => HW.out p.y ⟨y0, y1⟩ W)
  have HZ := Lib.hid (fun W => HW.out p.z ⟨z0, z1⟩ W)
  have HT := Lib.hid (fun W => by
    have := Turned_q ((p.z : Int) : Rat) W ((szV_co (n := p.z) ⟨z0, z1⟩).s19 (by omega))
    rwa [neg_int] at this)
  have hJ : On w (w.alloc (.cells #[.int .i64 p.x, .int .i64 p.y, .int .i64 p.z] 23)) w.heap.size (.cells #[.int .i64 p.x, .int .i64 p.y, .int .i64 p.z] 23 (0, 0)) := ⟨heap_alloc_new w _, below_al w _⟩
  have hres : rowL p 1 = [[48], [49], [48], rtoa ((-p.z : Int) : Rat), [48], rtoa ((p.x : Int) : Rat)] := by unfold rowL; simp only [frmF, rtoa_0, rtoa_1]
  rw [hres]
  clear hres HW hp0 x0 x1 y0 y1 z0 z1
  generalize rtoa ((-p.z : Int) : Rat) = tn at *
  generalize rtoa ((p.x : Int) : Rat) = tx at *
  generalize rtoa ((p.y : Int) : Rat) = ty at *
  generalize rtoa ((p.z : Int) : Rat) = tz at *
  obtain ⟨x, y, z⟩ := p
  simp only at hJ HX HY HZ
  go_enter Tryz.func133, Tryz.ntmps133
  go_upto_region 1 with fail
  generalize hW0 : w.alloc (.cells #[.int .i64 x, .int .i64 y, .int .i64 z] 23) = W0 at *
  clear hW0
  have HJ := Lib.hid hJ
  clear hJ
  go_region_held3 (fun w' => w'.cell? ⟨w.heap.size, 0, none⟩ = some (.int .i64 x) ∧ w'.cell? ⟨w.heap.size, 1, none⟩ = some (.int .i64 y) ∧ w'.cell? ⟨w.heap.size, 2, none⟩ = some (.int .i64 z) ∧ On w w' w.heap.size (.cells #[.int .i64 x, .int .i64 y, .int .i64 z] 23 (0, 0)))
    (first | with_reducible exact on3 J3 | with_reducible exact on3 J2 | with_reducible exact on3 J1 | with_reducible exact on3 HJ.out | with_reducible exact on3 HJ.out.drew)
    (first
      | (go_at_call 29; (first
          | ((with_reducible refine (HX.out _).mono ?_); rintro e v1 ⟨rfl, hb1⟩; (first | have J1 := HJ.out.drew.later hb1 | have J1 := HJ.out.later hb1))
          | ((with_reducible refine (HY.out _).mono ?_); rintro e v2 ⟨rfl, hb2⟩; have J2 := J1.later hb2)
          | ((with_reducible refine (HZ.out _).mono ?_); rintro e v3 ⟨rfl, hb3⟩; have J3 := J2.later hb3)))
      | fail)
  all_goals
    have HJ3 := Lib.hid J3
    clear J1 J2 J3 hb1 hb2 hb3
    go_wp2_with fail
    ((with_reducible refine (HT.out _).mono ?_); rintro e v4 ⟨rfl, hb4⟩)
    have HJ4 := Lib.hid (HJ3.out.later hb4)
    go_wp2
    go_ret
    exact ⟨v4.heap.size, 0, 6, rfl, RS.lit v4 [[48], [49], [48], tn, [48], tx] 35, alloc_lt v4 _, HJ4.out.w.nx (below_al v4 _)⟩
set_option maxRecDepth 100000 in
set_option maxHeartbeats 4000000 in
theorem rrow2_c (p : Sp) (w : World) (hp : InP p) : Calls Tryz.prog 133 #[.int .i64 2, spV p] w (NewT w (rowL p 2)) := by
  have HW := Lib.hid (fun (n : Int) (h : -100000 ≤ n ∧ n ≤ 100000) W => rwholeR n W (by omega))
  have hp0 := hp
  obtain ⟨⟨x0, x1⟩, ⟨y0, y1⟩, ⟨z0, z1⟩⟩ := hp
  have HX := Lib.hid (fun W => HW.out p.x ⟨x0, x1⟩ W)
  have HY := Lib.hid (fun W => HW.out p.y ⟨y0, y1⟩ W)
  have HZ := Lib.hid (fun W => HW.out p.z ⟨z0, z1⟩ W)
  have HT := Lib.hid (fun W => by
    have := Turned_q ((p.x : Int) : Rat) W ((szV_co (n := p.x) ⟨x0, x1⟩).s19 (by omega))
    rwa [neg_int] at this)
  have hJ : On w (w.alloc (.cells #[.int .i64 p.x, .int .i64 p.y, .int .i64 p.z] 23)) w.heap.size (.cells #[.int .i64 p.x, .int .i64 p.y, .int .i64 p.z] 23 (0, 0)) := ⟨heap_alloc_new w _, below_al w _⟩
  have hres : rowL p 2 = [[48], [48], [49], rtoa ((p.y : Int) : Rat), rtoa ((-p.x : Int) : Rat), [48]] := by unfold rowL; simp only [frmF, rtoa_0, rtoa_1]
  rw [hres]
  clear hres HW hp0 x0 x1 y0 y1 z0 z1
  generalize rtoa ((-p.x : Int) : Rat) = tn at *
  generalize rtoa ((p.x : Int) : Rat) = tx at *
  generalize rtoa ((p.y : Int) : Rat) = ty at *
  generalize rtoa ((p.z : Int) : Rat) = tz at *
  obtain ⟨x, y, z⟩ := p
  simp only at hJ HX HY HZ
  go_enter Tryz.func133, Tryz.ntmps133
  go_upto_region 1 with fail
  generalize hW0 : w.alloc (.cells #[.int .i64 x, .int .i64 y, .int .i64 z] 23) = W0 at *
  clear hW0
  have HJ := Lib.hid hJ
  clear hJ
  go_region_held3 (fun w' => w'.cell? ⟨w.heap.size, 0, none⟩ = some (.int .i64 x) ∧ w'.cell? ⟨w.heap.size, 1, none⟩ = some (.int .i64 y) ∧ w'.cell? ⟨w.heap.size, 2, none⟩ = some (.int .i64 z) ∧ On w w' w.heap.size (.cells #[.int .i64 x, .int .i64 y, .int .i64 z] 23 (0, 0)))
    (first | with_reducible exact on3 J3 | with_reducible exact on3 J2 | with_reducible exact on3 J1 | with_reducible exact on3 HJ.out | with_reducible exact on3 HJ.out.drew)
    (first
      | (go_at_call 29; (first
          | ((with_reducible refine (HX.out _).mono ?_); rintro e v1 ⟨rfl, hb1⟩; (first | have J1 := HJ.out.drew.later hb1 | have J1 := HJ.out.later hb1))
          | ((with_reducible refine (HY.out _).mono ?_); rintro e v2 ⟨rfl, hb2⟩; have J2 := J1.later hb2)
          | ((with_reducible refine (HZ.out _).mono ?_); rintro e v3 ⟨rfl, hb3⟩; have J3 := J2.later hb3)))
      | fail)
  all_goals
    have HJ3 := Lib.hid J3
    clear J1 J2 J3 hb1 hb2 hb3
    go_wp2_with fail
    ((with_reducible refine (HT.out _).mono ?_); rintro e v4 ⟨rfl, hb4⟩)
    have HJ4 := Lib.hid (HJ3.out.later hb4)
    go_wp2
    go_ret
    exact ⟨v4.heap.size, 0, 6, rfl, RS.lit v4 [[48], [48], [49], ty, tn, [48]] 35, alloc_lt v4 _, HJ4.out.w.nx (below_al v4 _)⟩
end Go.Proofs.Wk
/- POSITION, IN THE REFERENCE: where a point goes, the bounded axes, the deviations of a point. -/
namespace Go.Proofs.Wk
open Go.RowKit Mt Po

theorem dtL_eq (c : Nat → Int) (q : Nat → Rat) : ∀ k, dtL (fun j => ((c j : Int) : Rat)) q k = dotF c q k
  | 0 => rfl
  | k + 1 => by unfold dtL dotF; rw [dtL_eq c q k]
theorem rrowA_c (p : Sp) (a : Nat) (ha : a < 3) (w : World) (hp : InP p) : Calls Tryz.prog 133 #[.int .i64 (a : Int), spV p] w (NewT w (rowL p a)) := by
  rcases (by omega : a = 0 ∨ a = 1 ∨ a = 2) with rfl | rfl | rfl
  · exact rrow0_c p w hp
  · exact rrow1_c p w hp
  · exact rrow2_c p w hp
/-- Six texts in new memory. -/
def New6 (w : World) (ls : List Txt) (e : Ending) (w' : World) : Prop := ∃ b off cap, e = .returned (.slice (some ⟨b, off, none⟩) 6 cap) ∧ RS w' b off ls ∧ b < w'.heap.size ∧ Below w.heap.size w w'
theorem rowL_at (p : Sp) (a : Nat) : ∀ k (hk : k < (rowL p a).length), (rowL p a)[k] = rtoa ((frmF p a k : Int) : Rat) := by
  intro k hk
  rcases six (show k < 6 from hk) with rfl | rfl | rfl | rfl | rfl | rfl <;> rfl
theorem tqT_at (t : TQ) : ∀ k (hk : k < (tqT t).l.length), (tqT t).l[k] = rtoa (tqF t k) := by
  intro k hk
  rcases six (show k < 6 from hk) with rfl | rfl | rfl | rfl | rfl | rfl <;> rfl
/-- The cells that are read while a point is moved. -/
theorem cells9 {w W : World} {g1 g2 : Nat} {a0 a1 a2 a3 a4 a5 b0 b1 b2 : Value} {t1 t2 : TypeId} (h : Tw w W g1 g2 (.cells #[a0, a1, a2, a3, a4, a5] t1 (0, 0)) (.cells #[b0, b1, b2] t2 (0, 0))) :
    W.cell? ⟨g1, 0, none⟩ = some a0 ∧ W.cell? ⟨g1, 1, none⟩ = some a1 ∧ W.cell? ⟨g1, 2, none⟩ = some a2 ∧ W.cell? ⟨g1, 3, none⟩ = some a3 ∧ W.cell? ⟨g1, 4, none⟩ = some a4 ∧ W.cell? ⟨g1, 5, none⟩ = some a5 ∧
      W.cell? ⟨g2, 0, none⟩ = some b0 ∧ W.cell? ⟨g2, 1, none⟩ = some b1 ∧ W.cell? ⟨g2, 2, none⟩ = some b2 ∧ Tw w W g1 g2 (.cells #[a0, a1, a2, a3, a4, a5] t1 (0, 0)) (.cells #[b0, b1, b2] t2 (0, 0)) := by
  obtain ⟨h0, h1, h2, h3, h4, h5⟩ := c6row h.a
  obtain ⟨k0, k1, k2⟩ := c3row h.b
  exact ⟨h0, h1, h2, h3, h4, h5, k0, k1, k2, h⟩
set_option maxRecDepth 100000 in
set_option maxHeartbeats 8000000 in
theorem rMoved_c (t : TQ) (p : Sp) (k : Nat) (hk : k < 3) (w : World) (ht : ShT t) (hp : InP p) :
    Calls Tryz.prog 85 #[ttV (tqT t), spV p, .int .i64 (k : Int)] w (Ret w (.string ⟨(rtoa (mvd t p k)).toArray⟩)) := by
  have HC := Lib.hid (fun W => rcoord_c k hk p W)
  have HW := Lib.hid (fun W => rwholeR (co p k) W (by have := hp.co k; omega))
  have HR := Lib.hid (fun W => show Calls Tryz.prog 133 #[.int .i64 (k : Int), spV p] W (New6 W (rowL p k)) from rrowA_c p k hk W hp)
  have HN := Lib.hid (fun W => show Calls Tryz.prog 41 #[ttV (tqT t)] W (New6 W (tqT t).l) from rnumbers_c (tqT t) W)
  have HD := Lib.hid (fun (b1 o1 c1 b2 o2 c2 : Nat) W (h1 : RS W b1 o1 (rowL p k)) (l1 : b1 < W.heap.size) (h2 : RS W b2 o2 (tqT t).l) (l2 : b2 < W.heap.size) => by
    have := rDot_c b1 o1 c1 b2 o2 c2 (fun j => ((frmF p k j : Int) : Rat)) (tqF t) (rowL p k) (tqT t).l W h1 l1 h2 l2 rfl rfl (rowL_at p k) (tqT_at t) (fun j hj => (szV_co (frmF_in hp hk hj)).big (by omega)) (fun j hj => (tqF_sz ht hj).big (by omega)) (fun j hj => by rw [dtL_eq]; exact (frm_sz hp ht hk hj).big (by omega))
    rwa [dtL_eq] at this)
  have HP := Lib.hid (fun W => by
    have := Plus_q ((co p k : Int) : Rat) (dotF (frmF p k) (tqF t) 6) W ((szV_co (hp.co k)).s19 (by omega)) ((frm_sz hp ht hk (Nat.le_refl 6)).s19 (by omega))
    rwa [← mvd_dot p t hk] at this)
  have hJ := Tw.new w (ttC (tqT t)).toList [.int .i64 p.x, .int .i64 p.y, .int .i64 p.z] 38 23
  clear ht hp hk
  generalize rtoa (mvd t p k) = tr at *
  generalize rtoa (dotF (frmF p k) (tqF t) 6) = td at *
  generalize rtoa ((co p k : Int) : Rat) = tc at *
  generalize co p k = ck at *
  generalize rowL p k = RL at *
  generalize (tqT t).l = NL at *
  generalize tqT t = tt at *
  obtain ⟨x, y, z⟩ := p
  obtain ⟨a0, a1, a2, b0, b1, b2⟩ := tt
  simp only at hJ
  go_enter Tryz.func85, Tryz.ntmps85
  go_upto_region 1 with fail
  generalize hW0 : (w.alloc (.cells #[.string ⟨a0.toArray⟩, .string ⟨a1.toArray⟩, .string ⟨a2.toArray⟩, .string ⟨b0.toArray⟩, .string ⟨b1.toArray⟩, .string ⟨b2.toArray⟩] 38)).alloc (.cells #[.int .i64 x, .int .i64 y, .int .i64 z] 23) = W0 at *
  clear hW0
  generalize w.heap.size + 1 = gp at *
  have HJ := Lib.hid hJ
  clear hJ
  go_region_held3 (fun w' => w'.cell? ⟨w.heap.size, 0, none⟩ = some (.string ⟨a0.toArray⟩) ∧ w'.cell? ⟨w.heap.size, 1, none⟩ = some (.string ⟨a1.toArray⟩) ∧ w'.cell? ⟨w.heap.size, 2, none⟩ = some (.string ⟨a2.toArray⟩) ∧ w'.cell? ⟨w.heap.size, 3, none⟩ = some (.string ⟨b0.toArray⟩) ∧ w'.cell? ⟨w.heap.size, 4, none⟩ = some (.string ⟨b1.toArray⟩) ∧ w'.cell? ⟨w.heap.size, 5, none⟩ = some (.string ⟨b2.toArray⟩) ∧
      w'.cell? ⟨gp, 0, none⟩ = some (.int .i64 x) ∧ w'.cell? ⟨gp, 1, none⟩ = some (.int .i64 y) ∧ w'.cell? ⟨gp, 2, none⟩ = some (.int .i64 z) ∧ Tw w w' w.heap.size gp (.cells #[.string ⟨a0.toArray⟩, .string ⟨a1.toArray⟩, .string ⟨a2.toArray⟩, .string ⟨b0.toArray⟩, .string ⟨b1.toArray⟩, .string ⟨b2.toArray⟩] 38 (0, 0)) (.cells #[.int .i64 x, .int .i64 y, .int .i64 z] 23 (0, 0)))
    (first | with_reducible exact cells9 J6 | with_reducible exact cells9 J5 | with_reducible exact cells9 J4 | with_reducible exact cells9 J3 | with_reducible exact cells9 J2 | with_reducible exact cells9 J1 | with_reducible exact cells9 HJ.out | with_reducible exact cells9 HJ.out.drew)
    (first
      | (go_at_call 86; (with_reducible refine (HC.out _).mono ?_); rintro e v1 ⟨rfl, hb1⟩; (first | have J1 := HJ.out.drew.later hb1 | have J1 := HJ.out.later hb1))
      | (go_at_call 29; (with_reducible refine (HW.out _).mono ?_); rintro e v2 ⟨rfl, hb2⟩; have J2 := J1.later hb2)
      | (go_at_call 133; (with_reducible refine (HR.out _).mono ?_); rintro e v3 ⟨rb, ro, rc, rfl, hR3, hl3, hb3⟩; have J3 := J2.later hb3)
      | (go_at_call 41; (with_reducible refine (HN.out _).mono ?_); rintro e v4 ⟨nb, no, nc, rfl, hR4, hl4, hb4⟩; have J4 := J3.later hb4; have hR3' := hR3.later hb4 hl3; have hl3' := Nat.lt_of_lt_of_le hl3 hb4.size)
      | (go_at_call 132; (with_reducible refine (HD.out _ _ _ _ _ _ _ hR3' hl3' hR4 hl4).mono ?_); rintro e v5 ⟨rfl, hb5⟩; have J5 := J4.later hb5)
      | (go_at_call 71; (with_reducible refine (HP.out _).mono ?_); rintro e v6 ⟨rfl, hb6⟩; have J6 := J5.later hb6)
      | fail)
  all_goals
    have hZ := J6.w
    clear J1 J2 J3 J4 J5 J6 hb1 hb2 hb3 hb4 hb5 hb6 hR3 hR4 hR3'
    go_wp2
    go_ret
    exact ⟨rfl, hZ⟩
set_option maxRecDepth 100000 in
set_option maxHeartbeats 4000000 in
theorem rBounded_c (f : Ft) (fv : Value) (k : Nat) (w : World) (hk : 0 ≤ f.kind ∧ f.kind < 5) : Calls Tryz.prog 83 #[ftV f fv, .int .i64 (k : Int)] w (Ret w (.bool (bnd f.kind f.axis k))) := by
  obtain ⟨nm, kind, axis, ⟨x, y, z⟩, lo, hi⟩ := f
  simp only at hk ⊢
  have h1 : ∀ n : Int, bnd 1 axis k = ((k : Int) != axis) := fun _ => by
    unfold bnd; by_cases h : (k : Int) = axis <;> simp [h]
  have h0 : ∀ n : Int, bnd 0 axis k = ((k : Int) == axis) := fun _ => by
    unfold bnd; by_cases h : (k : Int) = axis <;> simp [h]
  have hA := below_al w (.cells #[.string ⟨nm.toArray⟩, .int .i64 kind, .int .i64 axis, .int .i64 x, .int .i64 y, .int .i64 z, .int .i64 lo, .int .i64 hi, fv] 28)
  rcases (by omega : kind = 0 ∨ kind = 1 ∨ kind = 2 ∨ kind = 3 ∨ kind = 4) with rfl | rfl | rfl | rfl | rfl
  · rw [h0 0]
    go_enter Tryz.func83, Tryz.ntmps83
    go_wp2
    go_ret
    exact ⟨rfl, hA⟩
  · rw [h1 0]
    go_enter Tryz.func83, Tryz.ntmps83
    go_wp2
    go_ret
    exact ⟨rfl, hA⟩
  · rw [show bnd 2 axis k = bnd 1 axis k from rfl, h1 0]
    go_enter Tryz.func83, Tryz.ntmps83
    go_wp2
    go_ret
    exact ⟨rfl, hA⟩
  · rw [show bnd 3 axis k = bnd 0 axis k from rfl, h0 0]
    go_enter Tryz.func83, Tryz.ntmps83
    go_wp2
    go_ret
    exact ⟨rfl, hA⟩
  · go_enter Tryz.func83, Tryz.ntmps83
    go_wp2
    go_ret
    exact ⟨rfl, hA⟩
end Go.Proofs.Wk
/- POSITION, IN THE REFERENCE: the deviations of a point. -/
namespace Go.Proofs.Wk
open Go.RowKit Mt Po

theorem rLess_q (p q : Rat) (w : World) (hp : szQ p 1900) (hq : szQ q 1900) : Calls Tryz.prog 84 #[.string ⟨(rtoa p).toArray⟩, .string ⟨(rtoa q).toArray⟩] w (Ret w (.string ⟨(rtoa (p - q)).toArray⟩)) := by
  have HM := Lib.hid (fun W => Minus_q p q W hp hq)
  generalize rtoa (p - q) = t at *
  generalize rtoa p = a at *
  generalize rtoa q = b at *
  go_enter Tryz.func84, Tryz.ntmps84
  go_wp2_with fail
  ((with_reducible refine (HM.out _).mono ?_); rintro e w1 ⟨rfl, hb1⟩)
  go_wp2
  go_ret
  exact ⟨rfl, hb1⟩
/-- Three blocks that are kept. -/
structure Th (w W : World) (g1 g2 g3 : Nat) (o1 o2 o3 : Obj) : Prop where
  a : W.heap[g1]? = some o1
  b : W.heap[g2]? = some o2
  c : W.heap[g3]? = some o3
  w : Below w.heap.size w W
theorem Th.later {w W W' : World} {g1 g2 g3 : Nat} {o1 o2 o3 : Obj} (h : Th w W g1 g2 g3 o1 o2 o3) (hb : Below W.heap.size W W') : Th w W' g1 g2 g3 o1 o2 o3 := ⟨keepD h.a hb, keepD h.b hb, keepD h.c hb, h.w.nx hb⟩
theorem Th.new (w : World) (o1 o2 o3 : Array Value) (t1 t2 t3 : TypeId) : Th w (((w.alloc (.cells o1 t1)).alloc (.cells o2 t2)).alloc (.cells o3 t3)) w.heap.size (w.heap.size + 1) (w.heap.size + 1 + 1) (.cells o1 t1 (0, 0)) (.cells o2 t2 (0, 0)) (.cells o3 t3 (0, 0)) := by
  have h3 := heap_alloc_new ((w.alloc (.cells o1 t1)).alloc (.cells o2 t2)) (.cells o3 t3)
  rw [World.size_alloc, World.size_alloc] at h3
  exact ⟨keepD (heap_alloc_new w _) (bx2 _ _ _), keepD (nw2 w o1 o2 _ _) (below_al _ _), h3, bx3 w _ _ _⟩
theorem cells12 {w W : World} {g1 g2 g3 : Nat} {e0 e1 e2 e3 e4 e5 e6 e7 e8 a0 a1 a2 a3 a4 a5 b0 b1 b2 : Value} {t1 t2 t3 : TypeId} (h : Th w W g1 g2 g3 (.cells #[e0, e1, e2, e3, e4, e5, e6, e7, e8] t1 (0, 0)) (.cells #[a0, a1, a2, a3, a4, a5] t2 (0, 0)) (.cells #[b0, b1, b2] t3 (0, 0))) :
    W.cell? ⟨g1, 3, none⟩ = some e3 ∧ W.cell? ⟨g1, 4, none⟩ = some e4 ∧ W.cell? ⟨g1, 5, none⟩ = some e5 ∧ W.cell? ⟨g2, 0, none⟩ = some a0 ∧ W.cell? ⟨g2, 1, none⟩ = some a1 ∧ W.cell? ⟨g2, 2, none⟩ = some a2 ∧ W.cell? ⟨g2, 3, none⟩ = some a3 ∧ W.cell? ⟨g2, 4, none⟩ = some a4 ∧ W.cell? ⟨g2, 5, none⟩ = some a5 ∧
      W.cell? ⟨g3, 0, none⟩ = some b0 ∧ W.cell? ⟨g3, 1, none⟩ = some b1 ∧ W.cell? ⟨g3, 2, none⟩ = some b2 := by
  obtain ⟨-, -, -, d3, d4, d5, -, -, -⟩ := c9row h.a
  obtain ⟨h0, h1, h2, h3, h4, h5⟩ := c6row h.b
  obtain ⟨k0, k1, k2⟩ := c3row h.c
  exact ⟨d3, d4, d5, h0, h1, h2, h3, h4, h5, k0, k1, k2⟩
set_option maxRecDepth 100000 in
set_option maxHeartbeats 8000000 in
theorem rOff_c (f : Ft) (fv : Value) (t : TQ) (p : Sp) (w : World) (hk : 0 ≤ f.kind ∧ f.kind < 5) (hpos : InP f.pos) (ht : ShT t) (hp : InP p) :
    Calls Tryz.prog 54 #[ftV f fv, ttV (tqT t), spV p] w (fun e w' => ∃ v, e = .returned v ∧ SlS w' v ((devs f.kind f.axis f.pos t p).map rtoa) ∧ Below w.heap.size w w') := by
  have HBN := Lib.hid (fun k W => rBounded_c f fv k W hk)
  have HMV := Lib.hid (fun k (h : k < 3) W => rMoved_c t p k h W ht hp)
  have HCO := Lib.hid (fun k (h : k < 3) W => rcoord_c k h f.pos W)
  have HWH := Lib.hid (fun k W => rwholeR (co f.pos k) W (by have := hpos.co k; omega))
  have HMI := Lib.hid (fun k W => by
    have := rLess_q (mvd t p k) ((co f.pos k : Int) : Rat) W ((sz_mvd ht hp k).s19 (by omega)) ((szV_co (hpos.co k)).s19 (by omega))
    rwa [show mvd t p k - ((co f.pos k : Int) : Rat) = dev f.pos t p k from rfl] at this)
  obtain ⟨PT, hPT⟩ : ∃ PT : Nat → List Txt, PT = fun k => (devsTo f.kind f.axis f.pos t p k).map rtoa := ⟨_, rfl⟩
  have HPY := Lib.hid (fun k (h : bnd f.kind f.axis k = true) => show PT (k + 1) = PT k ++ [rtoa (dev f.pos t p k)] by rw [hPT]; simp only; rw [devsTo_yes h, List.map_append]; rfl)
  have HPN := Lib.hid (fun k (h : bnd f.kind f.axis k = false) => show PT (k + 1) = PT k by rw [hPT]; simp only; rw [devsTo_no h])
  have HPL := Lib.hid (fun k => show (PT k).length ≤ k by rw [hPT]; simp only; rw [List.length_map]; exact devsTo_len _ _ _ _ _ k)
  have HP0 := Lib.hid (show PT 0 = [] by rw [hPT]; rfl)
  have HPE : PT 3 = (devs f.kind f.axis f.pos t p).map rtoa := by rw [hPT]; rfl
  rw [← HPE]
  clear hPT HPE hk hpos ht hp
  have hJ := Th.new w #[.string ⟨f.nm.toArray⟩, .int .i64 f.kind, .int .i64 f.axis, .int .i64 f.pos.x, .int .i64 f.pos.y, .int .i64 f.pos.z, .int .i64 f.lo, .int .i64 f.hi, fv] (ttC (tqT t)) #[.int .i64 p.x, .int .i64 p.y, .int .i64 p.z] 28 38 23
  generalize hb : bnd f.kind f.axis = bb at *
  generalize hm : mvd t p = mv at *
  generalize hd : dev f.pos t p = dvf at *
  generalize hc : co f.pos = cf at *
  clear hb hm hd hc
  generalize tqT t = tt at *
  obtain ⟨nm, kind, axis, ⟨fx, fy, fz⟩, lo, hi⟩ := f
  obtain ⟨x, y, z⟩ := p
  obtain ⟨a0, a1, a2, b0, b1, b2⟩ := tt
  simp only at hJ
  go_enter Tryz.func54, Tryz.ntmps54
  go_wp2_with fail
  generalize hW0 : ((w.alloc (.cells #[.string ⟨nm.toArray⟩, .int .i64 kind, .int .i64 axis, .int .i64 fx, .int .i64 fy, .int .i64 fz, .int .i64 lo, .int .i64 hi, fv] 28)).alloc (.cells #[.string ⟨a0.toArray⟩, .string ⟨a1.toArray⟩, .string ⟨a2.toArray⟩, .string ⟨b0.toArray⟩, .string ⟨b1.toArray⟩, .string ⟨b2.toArray⟩] 38)).alloc (.cells #[.int .i64 x, .int .i64 y, .int .i64 z] 23) = W0 at *
  clear hW0
  generalize w.heap.size + 1 + 1 = gp at *
  generalize w.heap.size + 1 = gt at *
  have HJ := Lib.hid hJ
  clear hJ
  have HALL := Lib.hid (fun (W : World) (h : Below W0.heap.size W0 W) => by
    obtain ⟨k1, k2, k3, k4, k5, k6, k7, k8, k9, ka, kb, kc⟩ := cells12 (HJ.out.later h)
    exact (⟨k1, k2, k3, k4, k5, k6, k7, k8, k9, ka, kb, kc, h⟩ : W.cell? ⟨w.heap.size, 3, none⟩ = some (.int .i64 fx) ∧ W.cell? ⟨w.heap.size, 4, none⟩ = some (.int .i64 fy) ∧ W.cell? ⟨w.heap.size, 5, none⟩ = some (.int .i64 fz) ∧ W.cell? ⟨gt, 0, none⟩ = some (.string ⟨a0.toArray⟩) ∧ W.cell? ⟨gt, 1, none⟩ = some (.string ⟨a1.toArray⟩) ∧ W.cell? ⟨gt, 2, none⟩ = some (.string ⟨a2.toArray⟩) ∧ W.cell? ⟨gt, 3, none⟩ = some (.string ⟨b0.toArray⟩) ∧ W.cell? ⟨gt, 4, none⟩ = some (.string ⟨b1.toArray⟩) ∧ W.cell? ⟨gt, 5, none⟩ = some (.string ⟨b2.toArray⟩) ∧
      W.cell? ⟨gp, 0, none⟩ = some (.int .i64 x) ∧ W.cell? ⟨gp, 1, none⟩ = some (.int .i64 y) ∧ W.cell? ⟨gp, 2, none⟩ = some (.int .i64 z) ∧ Below W0.heap.size W0 W))
  go_loopw [7, 8] (fun so si wr => ∃ k : Nat, si = .int .i64 (k : Int) ∧ k ≤ 3 ∧ Hid (OwT 35 wr W0.heap.size so (PT k)) ∧ Hid (Below W0.heap.size W0 wr)) (fun _ si _ => 3 - (intOf si).toNat)
  case atStart => exact ⟨0, rfl, Nat.zero_le _, by rw [HP0.out]; exact OwT.nil _ _ _, Below.refl _ _⟩
  case round =>
    obtain ⟨k, rfl, hk, hO, hB⟩ := hrel
    by_cases hlt : k < 3
    · have HB1 := Lib.hid (fun W => HBN.out k W)
      have HM1 := Lib.hid (fun W => HMV.out k hlt W)
      have HC1 := Lib.hid (fun W => HCO.out k hlt W)
      have HW1 := Lib.hid (fun W => HWH.out k W)
      have HI1 := Lib.hid (fun W => HMI.out k W)
      have HY1 := Lib.hid (HPY.out k)
      have HN1 := Lib.hid (HPN.out k)
      have HL1 := Lib.hid (HPL.out k)
      generalize bb k = bk at *
      generalize rtoa (dvf k) = td at *
      generalize rtoa (mv k) = tm at *
      generalize rtoa ((cf k : Int) : Rat) = tc at *
      generalize cf k = ck at *
      have z3 : (k : Int) < 3 := by omega
      obtain ⟨c0, c1, c2, c3, c4, c5, c6, c7, c8⟩ := c9row (HJ.out.later hB.out).a
      go_wp2_with fail
      ((with_reducible refine (HB1.out _).mono ?_); rintro e w1 ⟨rfl, hb1⟩)
      have hB1 := Lib.hid (hB.out.nx hb1)
      have hO1 := Lib.hid (hO.out.later hb1)
      clear c0 c1 c2 c3 c4 c5 c6 c7 c8 hb1 hB hO
      cases bk with
      | false =>
        have HS := Lib.hid (HN1.out rfl)
        clear HY1 HN1
        go_wp2
        go_roundw
        case rel => exact ⟨k + 1, by go_num, by omega, by rw [HS.out]; exact hO1.out, hB1.out⟩
        case measure => simp [intOf]; omega
      | true =>
        have HS := Lib.hid (HY1.out rfl)
        clear HY1 HN1
        obtain ⟨q1, q2, q3, q4, q5, q6, q7, q8, q9, qa, qb, qc, -⟩ := HALL.out _ hB1.out
        go_upto_region 6 with fail
        go_region_held3 (fun W => W.cell? ⟨w.heap.size, 3, none⟩ = some (.int .i64 fx) ∧ W.cell? ⟨w.heap.size, 4, none⟩ = some (.int .i64 fy) ∧ W.cell? ⟨w.heap.size, 5, none⟩ = some (.int .i64 fz) ∧ W.cell? ⟨gt, 0, none⟩ = some (.string ⟨a0.toArray⟩) ∧ W.cell? ⟨gt, 1, none⟩ = some (.string ⟨a1.toArray⟩) ∧ W.cell? ⟨gt, 2, none⟩ = some (.string ⟨a2.toArray⟩) ∧ W.cell? ⟨gt, 3, none⟩ = some (.string ⟨b0.toArray⟩) ∧ W.cell? ⟨gt, 4, none⟩ = some (.string ⟨b1.toArray⟩) ∧ W.cell? ⟨gt, 5, none⟩ = some (.string ⟨b2.toArray⟩) ∧
            W.cell? ⟨gp, 0, none⟩ = some (.int .i64 x) ∧ W.cell? ⟨gp, 1, none⟩ = some (.int .i64 y) ∧ W.cell? ⟨gp, 2, none⟩ = some (.int .i64 z) ∧ Below W0.heap.size W0 W)
          (first | with_reducible exact HALL.out _ B6 | with_reducible exact HALL.out _ B5 | with_reducible exact HALL.out _ B4 | with_reducible exact HALL.out _ B3 | with_reducible exact HALL.out _ B2 | with_reducible exact HALL.out _ B1 | with_reducible exact HALL.out _ hB1.out | with_reducible exact HALL.out _ hB1.out.drew)
          (first
            | (go_at_call 85; (with_reducible refine (HM1.out _).mono ?_); rintro e v1 ⟨rfl, hb1⟩; (first | ((with_reducible have B1 := hB1.out.drew.nx hb1); have O1 := (hO1.out.later (Below.refl _ w1).drew).later hb1) | ((with_reducible have B1 := hB1.out.nx hb1); have O1 := hO1.out.later hb1)))
            | (go_at_call 86; (with_reducible refine (HC1.out _).mono ?_); rintro e v2 ⟨rfl, hb2⟩; have B2 := B1.nx hb2; have O2 := O1.later hb2)
            | (go_at_call 29; (with_reducible refine (HW1.out _).mono ?_); rintro e v3 ⟨rfl, hb3⟩; have B3 := B2.nx hb3; have O3 := O2.later hb3)
            | (go_at_call 84; (with_reducible refine (HI1.out _).mono ?_); rintro e v4 ⟨rfl, hb4⟩; have B4 := B3.nx hb4; have O4 := O3.later hb4; have B5 := B4.nx (below_al v4 (.cells #[txt td] 35)); have O5 := Lib.hid (O4.later (below_al v4 (.cells #[txt td] 35))); have HSZ := Lib.hid B5.size; have HCC := Lib.hid (show (v4.alloc (.cells #[txt td] 35)).cell? ⟨v4.heap.size, 0, none⟩ = some (txt td) from c1row (heap_alloc_new v4 _)))
            | (refine step_app_txt _ (by rfl) _ _ 59 35 (by rfl) Tryz.underlying59 (by kernel_rfl) W0.heap.size _ (PT k) (by rfl) O5.out v4.heap.size td (by rfl) HCC.out (by have := HL1.out; omega) HSZ.out ?_; intro gg cap w6 hO6 hb6; have B6 := B5.trans hb6; have HO6 := Lib.hid hO6; clear hO6)
            | fail)
        all_goals
          have HO7 := Lib.hid HO6.out
          rw [← HS.out] at HO7
          have HB7 := Lib.hid B6
          clear B1 B2 B3 B4 B5 B6 O1 O2 O3 O4 O5 HO6 hb1 hb2 hb3 hb4 hb6 q1 q2 q3 q4 q5 q6 q7 q8 q9 qa qb qc hB1 hO1
          go_wp2
          go_roundw
          case rel => exact ⟨k + 1, by go_num, by omega, HO7.out, HB7.out⟩
          case measure => simp [intOf]; omega
    · obtain rfl : k = 3 := by omega
      have HS := Lib.hid hO.out.sl
      have hw := HJ.out.w.nx hB.out
      clear hO hB
      go_wp2
      go_ret
      exact ⟨_, rfl, HS.out, hw⟩
end Go.Proofs.Wk
