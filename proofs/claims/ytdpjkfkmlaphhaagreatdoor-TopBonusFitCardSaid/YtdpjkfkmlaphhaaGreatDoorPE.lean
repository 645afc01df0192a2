/- POSITION: torsors in the program: their numbers, their check. -/
import Derived.Test.YtdpjkfkmlaphhaaGreatDoorPB
import Derived.Test.YtdpjkfkmlaphhaaGreatDoorHI
import Derived.Test.YtdpjkfkmlaphhaaGreatDoorRqI
import Derived.Laws.EntriesVeiled
namespace Go.Proofs.Wk
open Go.RowKit Mt Po

abbrev ttC (t : TT) : Array Value := #[.string ⟨t.a0.toArray⟩, .string ⟨t.a1.toArray⟩, .string ⟨t.a2.toArray⟩, .string ⟨t.b0.toArray⟩, .string ⟨t.b1.toArray⟩, .string ⟨t.b2.toArray⟩]
theorem nw2 (w : World) (o1 o2 : Array Value) (t1 t2 : TypeId) : ((w.alloc (.cells o1 t1)).alloc (.cells o2 t2)).heap[w.heap.size + 1]? = some (.cells o2 t2 (0, 0)) := by
  have := heap_alloc_new (w.alloc (.cells o1 t1)) (.cells o2 t2)
  rwa [World.size_alloc] at this
theorem bx2 (w : World) (o1 o2 : Obj) : Below w.heap.size w ((w.alloc o1).alloc o2) := (below_al w o1).nx (below_al _ o2)
theorem bx3 (w : World) (o1 o2 o3 : Obj) : Below w.heap.size w (((w.alloc o1).alloc o2).alloc o3) := (bx2 w o1 o2).nx (below_al _ o3)
set_option maxRecDepth 100000 in
set_option maxHeartbeats 1000000 in
theorem numbers_c (t : TT) (w : World) : Calls Tryz.prog 47 #[ttV t] w (Ret w (ttV t)) := by
  obtain ⟨a0, a1, a2, b0, b1, b2⟩ := t
  go_enter Tryz.func47, Tryz.ntmps47
  go_wp2
  refine bodyPost_ret (results_cell_row rfl _ _ (w.heap.size + 1) 110 #[.string ⟨a0.toArray⟩, .string ⟨a1.toArray⟩, .string ⟨a2.toArray⟩, .string ⟨b0.toArray⟩, .string ⟨b1.toArray⟩, .string ⟨b2.toArray⟩] (0, 0) _ (by kernel_rfl) (nw2 w _ _ _ _) Tryz.underlying110 rfl (by kernel_rfl)) rfl ?_
  exact ⟨rfl, bx2 w _ _⟩
set_option maxRecDepth 100000 in
set_option maxHeartbeats 1000000 in
theorem tcoord_c (p : Sp) (w : World) : Calls Tryz.prog 146 #[spV p] w (Ret w (spV p)) := by
  obtain ⟨x, y, z⟩ := p
  go_enter Tryz.func146, Tryz.ntmps146
  go_wp2
  refine bodyPost_ret (results_cell_row rfl _ _ (w.heap.size + 1) 173 #[.int .i64 x, .int .i64 y, .int .i64 z] (0, 0) _ (by kernel_rfl) (nw2 w _ _ _ _) Tryz.underlying173 rfl (by kernel_rfl)) rfl ?_
  exact ⟨rfl, bx2 w _ _⟩
set_option maxRecDepth 100000 in
set_option maxHeartbeats 1000000 in
theorem canon_c (b off c : Nat) (ls : List Txt) (w : World) (hg : Good w) (hR : RS w b off ls) (hl : b < w.heap.size) (hls : ls.length ≤ 140737488355328) (hlen : ∀ l ∈ ls, l.length ≤ 140737488355328) :
    Calls Tryz.prog 90 #[.slice (some ⟨b, off, none⟩) ls.length c] w (Ret w (.int .i64 (firstR ls))) := by
  have HR := Lib.hid hR; have HL := Lib.hid hlen; have HG := Lib.hid hg
  obtain ⟨n, hnn⟩ : ∃ n, ls.length = n := ⟨_, rfl⟩
  rw [hnn] at hls ⊢
  have HN := Lib.hid hnn
  clear hnn hR hlen hg
  go_enter Tryz.func90, Tryz.ntmps90
  go_wp2_with fail
  go_loopw [8] (fun si wr => ∃ i : Nat, si = .int .i64 (i : Int) ∧ i ≤ n ∧ Hid (firstR (ls.drop i) = firstR ls) ∧ Below w.heap.size w wr) (fun si _ => n - (intOf si).toNat)
  case atStart => exact ⟨0, rfl, Nat.zero_le _, rfl, Below.refl _ _⟩
  case round =>
    obtain ⟨i, rfl, hi, hE, hB⟩ := hrel
    by_cases hlt : i < n
    · have hil : i < ls.length := by rw [HN.out]; exact hlt
      have hc := (HR.out.later hB hl) i hil
      have hd := firstR_drop hil
      have hll := HL.out ls[i] (List.getElem_mem hil)
      obtain ⟨l, hle⟩ : ∃ l, ls[i] = l := ⟨_, rfl⟩
      rw [hle] at hc hd hll
      have HC := Lib.hid (qCheck_c l wr (HG.out.later hB) hll)
      by_cases h0 : rchk l = 0
      · rw [h0] at HC
        have HE := Lib.hid (show firstR (ls.drop (i + 1)) = firstR ls by rw [← hE.out, hd, if_pos h0])
        clear hle hd hll h0
        go_wp2_with fail
        ((with_reducible refine (HC.out).mono ?_); rintro e w2 ⟨rfl, hb2⟩)
        have hB2 := hB.trans (hb2.mono hB.size)
        go_wp2
        go_roundw
        case rel => exact ⟨i + 1, by go_num, by omega, HE, hB2⟩
        case measure => simp [intOf]; omega
      · have HE := Lib.hid (show firstR ls = rchk l by rw [← hE.out, hd, if_neg h0])
        have h3 := bne_ne h0
        clear hle hd hll h0
        obtain ⟨x, hx⟩ : ∃ x, rchk l = x := ⟨_, rfl⟩
        rw [hx] at HE HC h3
        clear hx
        go_wp2_with fail
        ((with_reducible refine (HC.out).mono ?_); rintro e w2 ⟨rfl, hb2⟩)
        have hB2 := hB.trans (hb2.mono hB.size)
        go_wp2
        go_ret
        rw [HE.out]
        exact ⟨rfl, hB2⟩
    · obtain rfl : i = n := by omega
      have HE := Lib.hid (show firstR ls = 0 by rw [← hE.out, ← HN.out, List.drop_length]; rfl)
      go_wp2
      go_ret
      rw [HE.out]
      exact ⟨rfl, hB⟩
/-- The error of a torsor. -/
def ttE (t : TT) : Int := firstR t.l
set_option maxRecDepth 100000 in
set_option maxHeartbeats 1000000 in
theorem torCheck_c (t : TT) (w : World) (hg : Good w) (hl : ∀ l ∈ t.l, l.length ≤ 140737488355328) : Calls Tryz.prog 46 #[ttV t] w (Ret w (.int .i64 (ttE t))) := by
  have HN := Lib.hid (fun W => numbers_c t W)
  have HC := Lib.hid (fun (W : World) (b : Nat) (h : Below w.heap.size w W) (hr : W.heap[b]? = some (.cells (ttC t) 110 (0, 0))) => canon_c b 0 6 t.l W (hg.later h) (fun j hj => by
    rw [Nat.zero_add, cell_of_row _ _ _ _ _ _ hr]
    rcases (by simpa [TT.l] using hj : j < 6) with hj'
    rcases (by omega : j = 0 ∨ j = 1 ∨ j = 2 ∨ j = 3 ∨ j = 4 ∨ j = 5) with rfl | rfl | rfl | rfl | rfl | rfl <;> rfl) (Array.getElem?_eq_some_iff.1 hr).1 (by simp [TT.l]) hl)
  unfold ttE
  have hA := below_al w (.cells (ttC t) 38)
  generalize firstR t.l = E at *
  obtain ⟨a0, a1, a2, b0, b1, b2⟩ := t
  simp only [TT.l, List.length_cons, List.length_nil, Nat.zero_add, Nat.reduceAdd] at HC
  clear hg hl
  go_enter Tryz.func46, Tryz.ntmps46
  go_wp2_with fail
  ((with_reducible refine (HN.out _).mono ?_); rintro e w1 ⟨rfl, hb1⟩)
  have hB1 := (hA.nx hb1).nx (below_al w1 (.cells #[.string ⟨a0.toArray⟩, .string ⟨a1.toArray⟩, .string ⟨a2.toArray⟩, .string ⟨b0.toArray⟩, .string ⟨b1.toArray⟩, .string ⟨b2.toArray⟩] 110))
  have hr1 := heap_alloc_new w1 (.cells #[.string ⟨a0.toArray⟩, .string ⟨a1.toArray⟩, .string ⟨a2.toArray⟩, .string ⟨b0.toArray⟩, .string ⟨b1.toArray⟩, .string ⟨b2.toArray⟩] 110)
  clear hA hb1
  go_wp2_with fail
  generalize w1.alloc (.cells #[.string ⟨a0.toArray⟩, .string ⟨a1.toArray⟩, .string ⟨a2.toArray⟩, .string ⟨b0.toArray⟩, .string ⟨b1.toArray⟩, .string ⟨b2.toArray⟩] 110) = W1 at *
  ((with_reducible refine (HC.out _ _ hB1 hr1).mono ?_); rintro e w2 ⟨rfl, hb2⟩)
  have hB2 := hB1.nx hb2
  clear hr1 hb2 hB1
  go_wp2
  go_ret
  exact ⟨rfl, hB2⟩
end Go.Proofs.Wk
/- POSITION: numbers that are short enough: sums, products and orders; the sum of products of a torsor. -/
namespace Go.Proofs.Wk
open Go.RowKit Mt Po

theorem szV.okq {q : Rat} {d v : Nat} (h : szV q d v) (hk : d + v ≤ 1024) : okQ q := (h.sz).ok hk
theorem szV.s19 {q : Rat} {d v : Nat} (h : szV q d v) (hk : d + v ≤ 1900) : szQ q 1900 := h.sz.mono hk
theorem addR {p q : Rat} {a u b v m : Nat} (hp : szV p a u) (hq : szV q b v) (hu : u ≤ m) (hv : v ≤ m) (hk : a + b + m < 1024) (w : World) (hg : Good w) :
    Calls Tryz.prog 50 #[.string ⟨(rtoa p).toArray⟩, .string ⟨(rtoa q).toArray⟩] w (Ret w (ans2 (rtoa (p + q), 0))) := by
  have h1 := hp.okq (by omega); have h2 := hq.okq (by omega)
  have := qAdd_c (rtoa p) (rtoa q) w hg (tlen h1) (tlen h2)
  rwa [rbin_ok _ _ h1 h2, addQ_v hp hq hu hv hk] at this
theorem subR {p q : Rat} {a u b v m : Nat} (hp : szV p a u) (hq : szV q b v) (hu : u ≤ m) (hv : v ≤ m) (hk : a + b + m < 1024) (w : World) (hg : Good w) :
    Calls Tryz.prog 99 #[.string ⟨(rtoa p).toArray⟩, .string ⟨(rtoa q).toArray⟩] w (Ret w (ans2 (rtoa (p - q), 0))) := by
  have h1 := hp.okq (by omega); have h2 := hq.okq (by omega)
  have := qSub_c (rtoa p) (rtoa q) w hg (tlen h1) (tlen h2)
  rwa [rbin_ok _ _ h1 h2, subQ_v hp hq hu hv hk] at this
theorem mulR {p q : Rat} {a u b v : Nat} (hp : szV p a u) (hq : szV q b v) (hk : a + b + (u + v) ≤ 1024) (w : World) (hg : Good w) :
    Calls Tryz.prog 137 #[.string ⟨(rtoa p).toArray⟩, .string ⟨(rtoa q).toArray⟩] w (Ret w (ans2 (rtoa (p * q), 0))) := by
  have h1 := hp.okq (by omega); have h2 := hq.okq (by omega)
  have := qMul_c (rtoa p) (rtoa q) w hg (tlen h1) (tlen h2)
  rwa [rbin_ok _ _ h1 h2, mulQ_v hp hq hk] at this
theorem cmpR {p q : Rat} {a u b v m : Nat} (hp : szV p a u) (hq : szV q b v) (hu : u ≤ m) (hv : v ≤ m) (hk : a + b + m ≤ 1024) (w : World) (hg : Good w) :
    Calls Tryz.prog 87 #[.string ⟨(rtoa p).toArray⟩, .string ⟨(rtoa q).toArray⟩] w (Ret w (int2 (cmpQ p q, 0))) := by
  have h1 := hp.okq (by omega); have h2 := hq.okq (by omega)
  have := qCompare_c (rtoa p) (rtoa q) w hg (tlen h1) (tlen h2)
  rwa [rbin_ok _ _ h1 h2, cmpE_v hp hq hu hv hk] at this
theorem rtoa_int (n : Int) : rtoa (n : Rat) = Lib.itoa n := by unfold rtoa; rw [if_pos (by rfl)]; rfl
theorem wholeR (n : Int) (w : World) (hg : Good w) (h : -9223372036854775808 ≤ n ∧ n ≤ 9223372036854775807) : Calls Tryz.prog 100 #[.int .i64 n] w (Ret w (.string ⟨(rtoa (n : Rat)).toArray⟩)) := by
  rw [rtoa_int]; exact qWhole_c n w hg h.1 h.2
theorem rwholeR (n : Int) (w : World) (h : -9223372036854775808 ≤ n ∧ n ≤ 9223372036854775807) : Calls Tryz.prog 12 #[.int .i64 n] w (Ret w (.string ⟨(rtoa (n : Rat)).toArray⟩)) := by
  rw [rtoa_int]; exact rWhole_q n w h.1 h.2
/-- The sum of the first k products. -/
def dotF (c : Nat → Int) (q : Nat → Rat) : Nat → Rat
  | 0 => 0
  | k + 1 => dotF c q k + (c k : Rat) * q k
abbrev i6C (c : Nat → Int) : Array Value := #[.int .i64 (c 0), .int .i64 (c 1), .int .i64 (c 2), .int .i64 (c 3), .int .i64 (c 4), .int .i64 (c 5)]
abbrev q6C (q : Nat → Rat) : Array Value := #[.string ⟨(rtoa (q 0)).toArray⟩, .string ⟨(rtoa (q 1)).toArray⟩, .string ⟨(rtoa (q 2)).toArray⟩, .string ⟨(rtoa (q 3)).toArray⟩, .string ⟨(rtoa (q 4)).toArray⟩, .string ⟨(rtoa (q 5)).toArray⟩]
theorem six {k : Nat} (h : k < 6) : k = 0 ∨ k = 1 ∨ k = 2 ∨ k = 3 ∨ k = 4 ∨ k = 5 := by omega
set_option maxRecDepth 100000 in
theorem i6_run (c : Nat → Int) {k : Nat} (h : k < 6) (W : World) : (Instr.index 225 (.agg (i6C c)) (.int .i64 (k : Int))).run Tryz.prog W = .ok (.int .i64 (c k)) W := by
  rcases six h with rfl | rfl | rfl | rfl | rfl | rfl
  all_goals rfl
theorem q6_cell {W : World} {g : Nat} {q : Nat → Rat} {T : TypeId} {fr : Nat × Nat} (hr : W.heap[g]? = some (.cells (q6C q) T fr)) {k : Nat} (h : k < 6) : W.cell? ⟨g, k, none⟩ = some (.string ⟨(rtoa (q k)).toArray⟩) := by
  rw [cell_of_row _ _ _ _ _ _ hr]
  rcases six h with rfl | rfl | rfl | rfl | rfl | rfl <;> rfl
set_option maxRecDepth 100000 in
set_option maxHeartbeats 4000000 in
theorem ttimes_c (c : Nat → Int) (q : Nat → Rat) (w : World) (hg : Good w) (hc : ∀ k, k < 6 → -100000 ≤ c k ∧ c k ≤ 100000) (hq : ∀ k, k < 6 → szV (q k) 25 0) (hs : ∀ k, k ≤ 6 → szV (dotF c q k) 77 7) :
    Calls Tryz.prog 147 #[.agg (i6C c), .agg (q6C q)] w (Ret w (ans2 (rtoa (dotF c q 6), 0))) := by
  have HW := Lib.hid (fun (k : Nat) (hk : k < 6) W (h : Below w.heap.size w W) => wholeR (c k) W (hg.later h) (by have := hc k hk; omega))
  have HM := Lib.hid (fun (k : Nat) (hk : k < 6) W (h : Below w.heap.size w W) => mulR (szV_co (hc k hk)) (hq k hk) (by omega) W (hg.later h))
  have HP := Lib.hid (fun (k : Nat) (hk : k < 6) W (h : Below w.heap.size w W) => addR (hs k (by omega)) (szV_mul (szV_co (hc k hk)) (hq k hk)) (m := 7) (by omega) (by omega) (by omega) W (hg.later h))
  have HS := Lib.hid (fun k => show dotF c q k + (c k : Rat) * q k = dotF c q (k + 1) from rfl)
  have HI := Lib.hid (fun (k : Nat) (hk : k < 6) => i6_run c hk)
  have HCL := Lib.hid (fun (k : Nat) (hk : k < 6) (W : World) (g : Nat) (h : W.heap[g]? = some (.cells (q6C q) 110 (0, 0))) => q6_cell h hk)
  have hO := Tw.new w [.int .i64 (c 0), .int .i64 (c 1), .int .i64 (c 2), .int .i64 (c 3), .int .i64 (c 4), .int .i64 (c 5)] [.string ⟨(rtoa (q 0)).toArray⟩, .string ⟨(rtoa (q 1)).toArray⟩, .string ⟨(rtoa (q 2)).toArray⟩, .string ⟨(rtoa (q 3)).toArray⟩, .string ⟨(rtoa (q 4)).toArray⟩, .string ⟨(rtoa (q 5)).toArray⟩] 225 110
  have HS0 := Lib.hid (show rtoa (dotF c q 0) = [48] from rtoa_zero)
  clear hg hc hq hs
  go_enter Tryz.func147, Tryz.ntmps147
  go_upto_region 1 with fail
  generalize hW0 : (w.alloc (.cells (i6C c) 225)).alloc (.cells (q6C q) 110) = W0 at *
  clear hW0
  generalize w.heap.size + 1 = gq at *
  obtain ⟨c0, c1, c2, c3, c4, c5⟩ := c6row hO.a
  have HO := Lib.hid hO
  clear hO
  go_wp2_with fail
  clear c0 c1 c2 c3 c4 c5
  go_loopw [6, 12] (fun ss si wr => ∃ k : Nat, si = .int .i64 (k : Int) ∧ k ≤ 6 ∧ ss = .string ⟨(rtoa (dotF c q k)).toArray⟩ ∧ Hid (Tw w wr w.heap.size gq (.cells (i6C c) 225 (0, 0)) (.cells (q6C q) 110 (0, 0)))) (fun _ si _ => 6 - (intOf si).toNat)
  case atStart => exact ⟨0, rfl, Nat.zero_le _, by rw [HS0.out], HO.out⟩
  case round =>
    obtain ⟨k, rfl, hk, rfl, hT⟩ := hrel
    by_cases hlt : k < 6
    · have hix := HI.out k hlt
      have k0 := HCL.out k hlt _ _ hT.out.b
      have HW1 := Lib.hid (fun W h => HW.out k hlt W h)
      have HM1 := Lib.hid (fun W h => HM.out k hlt W h)
      have HP1 := Lib.hid (fun W h => HP.out k hlt W h)
      have HST := HS.out k
      rw [HST] at HP1
      have i0 : (0 : Int) ≤ (k : Int) := by omega
      have i1 : (k : Int) < 6 := by omega
      obtain ⟨tn, htn⟩ : ∃ t, rtoa (dotF c q (k + 1)) = t := ⟨_, rfl⟩
      rw [htn] at HP1
      have HTN := Lib.hid htn
      clear htn
      generalize rtoa (dotF c q k) = ts at *
      clear HST
      have HC1 := Lib.hid (fun W g h => HCL.out k hlt W g h)
      generalize rtoa ((c k : Rat) * q k) = tm at *
      generalize rtoa ((c k : Int) : Rat) = tc at *
      generalize rtoa (q k) = tq at *
      generalize c k = ck at *
      go_upto_region 5 with fail
      go_region_with (first
        | (go_at_call 100; (with_reducible refine (HW1.out _ ?_).mono ?_); (first | exact hT.out.w | exact hT.out.w.drew); rintro e w2 ⟨rfl, hb2⟩; (first | have T2 := hT.out.drew.later hb2 | have T2 := hT.out.later hb2); have k1 := HC1.out _ _ T2.b)
        | (go_at_call 137; (with_reducible refine (HM1.out _ ?_).mono ?_); (first | exact T2.w | exact T2.w.drew); rintro e w3 ⟨rfl, hb3⟩; (first | have T3 := T2.later hb3 | have T3 := T2.drew.later hb3))
        | fail)
      all_goals
        clear k0 k1 hb2 hb3 hix
        go_wp2_with fail
        ((with_reducible refine (HP1.out _ T3.w).mono ?_); rintro e w4 ⟨rfl, hb4⟩)
        have T4 := Lib.hid (T3.later hb4)
        clear hb4 T3 T2 hT
        go_wp2
        go_roundw
        case rel => exact ⟨k + 1, by go_num, by omega, by rw [HTN.out], T4.out⟩
        case measure => simp [intOf]; omega
    · obtain rfl : k = 6 := by omega
      have hZ := hT.out.w
      go_wp2
      go_ret2
      exact ⟨rfl, hZ⟩
end Go.Proofs.Wk
/- POSITION: torsors in the program: the form of a coordinate, where a point goes. -/
namespace Go.Proofs.Wk
open Go.RowKit Mt Po

theorem brow {B : Nat} {a w : World} (h : Below B a w) {g : Nat} (hg : B ≤ g) (cs : Array Value) : Below B a (w.setRow g cs) :=
  below_setRow h hg cs
set_option maxRecDepth 100000 in
set_option maxHeartbeats 1000000 in
theorem form0_c (p : Sp) (w : World) (hp : InP p) : Calls Tryz.prog 148 #[.int .i64 0, spV p] w (Ret w (.agg #[.int .i64 1, .int .i64 0, .int .i64 0, .int .i64 0, .int .i64 p.z, .int .i64 (-p.y)])) := by
  have HC := Lib.hid (fun W => tcoord_c p W)
  have hA := bx2 w (.cells #[.int .i64 p.x, .int .i64 p.y, .int .i64 p.z] 23) (.cells #[.int .i64 0, .int .i64 0, .int .i64 0, .int .i64 0, .int .i64 0, .int .i64 0] 225)
  have hr := nw2 w #[.int .i64 p.x, .int .i64 p.y, .int .i64 p.z] #[.int .i64 0, .int .i64 0, .int .i64 0, .int .i64 0, .int .i64 0, .int .i64 0] 23 225
  obtain ⟨x, y, z⟩ := p
  obtain ⟨⟨x0, x1⟩, ⟨y0, y1⟩, ⟨z0, z1⟩⟩ := hp
  simp only at hA hr x0 x1 y0 y1 z0 z1
  go_enter Tryz.func148, Tryz.ntmps148
  go_wp2_with fail
  ((with_reducible refine (HC.out _).mono ?_); rintro e w1 ⟨rfl, hb1⟩)
  have hr1 := keepD hr hb1
  have hB1 := hA.nx hb1
  clear hr hA hb1
  have hgz : w.heap.size ≤ w.heap.size + 1 := Nat.le_succ _
  generalize w.heap.size + 1 = gz at *
  have hr2 := keepD hr1 (bx2 w1 (.cells #[.int .i64 x, .int .i64 y, .int .i64 z] 173) (.cells #[.int .i64 1, .int .i64 0, .int .i64 0, .int .i64 0, .int .i64 z, .int .i64 (-y)] 225))
  go_upto_region 7 with fail
  rename_i K0 hK0
  refine wp_region_lit ?_
  iterate 1 (refine wpList_plain rfl fun K hK => ?_; go_simp; refine hK _ _ ?_; clear hK; clear K)
  refine wpList_store_row rfl 225 (.tmp 4) (.tmp 32) rfl gz #[.int .i64 1, .int .i64 0, .int .i64 0, .int .i64 0, .int .i64 z, .int .i64 (-y)] rfl (by kernel_rfl) 225 #[.int .i64 0, .int .i64 0, .int .i64 0, .int .i64 0, .int .i64 0, .int .i64 0] hr2 (by kernel_rfl) rfl (by kernel_rfl) ?_
  refine wpList_nil ?_
  refine hK0 _ _ (wp_ret ?_)
  refine bodyPost_ret (results_cell_row rfl _ _ gz 225 #[.int .i64 1, .int .i64 0, .int .i64 0, .int .i64 0, .int .i64 z, .int .i64 (-y)] (0, 0) _ (by kernel_rfl) (setRow_heap _ gz _ _ _ _ hr2) Tryz.underlying225 rfl (by kernel_rfl)) rfl ?_
  exact ⟨rfl, brow (hB1.nx (bx2 w1 _ _)) hgz _⟩
set_option maxRecDepth 100000 in
set_option maxHeartbeats 1000000 in
theorem form1_c (p : Sp) (w : World) (hp : InP p) : Calls Tryz.prog 148 #[.int .i64 1, spV p] w (Ret w (.agg #[.int .i64 0, .int .i64 1, .int .i64 0, .int .i64 (-p.z), .int .i64 0, .int .i64 p.x])) := by
  have HC := Lib.hid (fun W => tcoord_c p W)
  have hA := bx2 w (.cells #[.int .i64 p.x, .int .i64 p.y, .int .i64 p.z] 23) (.cells #[.int .i64 0, .int .i64 0, .int .i64 0, .int .i64 0, .int .i64 0, .int .i64 0] 225)
  have hr := nw2 w #[.int .i64 p.x, .int .i64 p.y, .int .i64 p.z] #[.int .i64 0, .int .i64 0, .int .i64 0, .int .i64 0, .int .i64 0, .int .i64 0] 23 225
  obtain ⟨x, y, z⟩ := p
  obtain ⟨⟨x0, x1⟩, ⟨y0, y1⟩, ⟨z0, z1⟩⟩ := hp
  simp only at hA hr x0 x1 y0 y1 z0 z1
  go_enter Tryz.func148, Tryz.ntmps148
  go_wp2_with fail
  ((with_reducible refine (HC.out _).mono ?_); rintro e w1 ⟨rfl, hb1⟩)
  have hr1 := keepD hr hb1
  have hB1 := hA.nx hb1
  clear hr hA hb1
  have hgz : w.heap.size ≤ w.heap.size + 1 := Nat.le_succ _
  generalize w.heap.size + 1 = gz at *
  have hr2 := keepD hr1 (bx2 w1 (.cells #[.int .i64 x, .int .i64 y, .int .i64 z] 173) (.cells #[.int .i64 0, .int .i64 1, .int .i64 0, .int .i64 (-z), .int .i64 0, .int .i64 x] 225))
  go_upto_region 7 with fail
  rename_i K0 hK0
  refine wp_region_lit ?_
  iterate 1 (refine wpList_plain rfl fun K hK => ?_; go_simp; refine hK _ _ ?_; clear hK; clear K)
  refine wpList_store_row rfl 225 (.tmp 4) (.tmp 32) rfl gz #[.int .i64 0, .int .i64 1, .int .i64 0, .int .i64 (-z), .int .i64 0, .int .i64 x] rfl (by kernel_rfl) 225 #[.int .i64 0, .int .i64 0, .int .i64 0, .int .i64 0, .int .i64 0, .int .i64 0] hr2 (by kernel_rfl) rfl (by kernel_rfl) ?_
  refine wpList_nil ?_
  refine hK0 _ _ (wp_ret ?_)
  refine bodyPost_ret (results_cell_row rfl _ _ gz 225 #[.int .i64 0, .int .i64 1, .int .i64 0, .int .i64 (-z), .int .i64 0, .int .i64 x] (0, 0) _ (by kernel_rfl) (setRow_heap _ gz _ _ _ _ hr2) Tryz.underlying225 rfl (by kernel_rfl)) rfl ?_
  exact ⟨rfl, brow (hB1.nx (bx2 w1 _ _)) hgz _⟩
set_option maxRecDepth 100000 in
set_option maxHeartbeats 1000000 in
theorem form2_c (p : Sp) (w : World) (hp : InP p) : Calls Tryz.prog 148 #[.int .i64 2, spV p] w (Ret w (.agg #[.int .i64 0, .int .i64 0, .int .i64 1, .int .i64 p.y, .int .i64 (-p.x), .int .i64 0])) := by
  have HC := Lib.hid (fun W => tcoord_c p W)
  have hA := bx2 w (.cells #[.int .i64 p.x, .int .i64 p.y, .int .i64 p.z] 23) (.cells #[.int .i64 0, .int .i64 0, .int .i64 0, .int .i64 0, .int .i64 0, .int .i64 0] 225)
  have hr := nw2 w #[.int .i64 p.x, .int .i64 p.y, .int .i64 p.z] #[.int .i64 0, .int .i64 0, .int .i64 0, .int .i64 0, .int .i64 0, .int .i64 0] 23 225
  obtain ⟨x, y, z⟩ := p
  obtain ⟨⟨x0, x1⟩, ⟨y0, y1⟩, ⟨z0, z1⟩⟩ := hp
  simp only at hA hr x0 x1 y0 y1 z0 z1
  go_enter Tryz.func148, Tryz.ntmps148
  go_wp2_with fail
  ((with_reducible refine (HC.out _).mono ?_); rintro e w1 ⟨rfl, hb1⟩)
  have hr1 := keepD hr hb1
  have hB1 := hA.nx hb1
  clear hr hA hb1
  have hgz : w.heap.size ≤ w.heap.size + 1 := Nat.le_succ _
  generalize w.heap.size + 1 = gz at *
  have hr2 := keepD hr1 (bx2 w1 (.cells #[.int .i64 x, .int .i64 y, .int .i64 z] 173) (.cells #[.int .i64 0, .int .i64 0, .int .i64 1, .int .i64 y, .int .i64 (-x), .int .i64 0] 225))
  go_upto_region 7 with fail
  rename_i K0 hK0
  refine wp_region_lit ?_
  iterate 1 (refine wpList_plain rfl fun K hK => ?_; go_simp; refine hK _ _ ?_; clear hK; clear K)
  refine wpList_store_row rfl 225 (.tmp 4) (.tmp 32) rfl gz #[.int .i64 0, .int .i64 0, .int .i64 1, .int .i64 y, .int .i64 (-x), .int .i64 0] rfl (by kernel_rfl) 225 #[.int .i64 0, .int .i64 0, .int .i64 0, .int .i64 0, .int .i64 0, .int .i64 0] hr2 (by kernel_rfl) rfl (by kernel_rfl) ?_
  refine wpList_nil ?_
  refine hK0 _ _ (wp_ret ?_)
  refine bodyPost_ret (results_cell_row rfl _ _ gz 225 #[.int .i64 0, .int .i64 0, .int .i64 1, .int .i64 y, .int .i64 (-x), .int .i64 0] (0, 0) _ (by kernel_rfl) (setRow_heap _ gz _ _ _ _ hr2) Tryz.underlying225 rfl (by kernel_rfl)) rfl ?_
  exact ⟨rfl, brow (hB1.nx (bx2 w1 _ _)) hgz _⟩
/-- The coefficients of a coordinate, the numbers of a torsor. -/
def frmF (p : Sp) : Nat → Nat → Int
  | 0, 0 => 1 | 0, 4 => p.z | 0, 5 => -p.y
  | 1, 1 => 1 | 1, 3 => -p.z | 1, 5 => p.x
  | 2, 2 => 1 | 2, 3 => p.y | 2, 4 => -p.x
  | _, _ => 0
def tqF (t : TQ) : Nat → Rat
  | 0 => t.t0 | 1 => t.t1 | 2 => t.t2 | 3 => t.w0 | 4 => t.w1 | _ => t.w2
theorem frmF_in {p : Sp} (hp : InP p) {a : Nat} (ha : a < 3) {k : Nat} (hk : k < 6) : -100000 ≤ frmF p a k ∧ frmF p a k ≤ 100000 := by
  obtain ⟨h1, h2, h3⟩ := hp
  rcases (by omega : a = 0 ∨ a = 1 ∨ a = 2) with rfl | rfl | rfl <;> rcases six hk with rfl | rfl | rfl | rfl | rfl | rfl <;> simp only [frmF] <;> omega
theorem tqF_sz {t : TQ} (ht : ShT t) {k : Nat} (hk : k < 6) : szV (tqF t k) 25 0 := by
  rcases six hk with rfl | rfl | rfl | rfl | rfl | rfl
  · exact ht.t0
  · exact ht.t1
  · exact ht.t2
  · exact ht.w0
  · exact ht.w1
  · exact ht.w2
theorem one_mul' (q : Rat) : ((1 : Int) : Rat) * q = q := by rw [show ((1 : Int) : Rat) = 1 from rfl, Rat.one_mul]
theorem zero_mul' (q : Rat) : ((0 : Int) : Rat) * q = 0 := by rw [show ((0 : Int) : Rat) = 0 from rfl, Rat.zero_mul]
theorem frm_dot (p : Sp) (t : TQ) : (dotF (frmF p 0) (tqF t) 6 = t.t0 + (p.z : Rat) * t.w1 + ((-p.y : Int) : Rat) * t.w2) ∧ (dotF (frmF p 1) (tqF t) 6 = t.t1 + ((-p.z : Int) : Rat) * t.w0 + (p.x : Rat) * t.w2) ∧
    (dotF (frmF p 2) (tqF t) 6 = t.t2 + (p.y : Rat) * t.w0 + ((-p.x : Int) : Rat) * t.w1) := by
  refine ⟨?_, ?_, ?_⟩ <;> (simp only [dotF, frmF, tqF, one_mul', zero_mul', Rat.add_zero, Rat.zero_add])
theorem frm_sz {p : Sp} (hp : InP p) {t : TQ} (ht : ShT t) {a : Nat} (ha : a < 3) {k : Nat} (hk : k ≤ 6) : szV (dotF (frmF p a) (tqF t) k) 77 7 := by
  obtain ⟨h1, h2, h3⟩ := hp
  have e0 := sz_term (x := 0) ht.t0 ht.w1 ht.w2 h3 (show -100000 ≤ -p.y ∧ -p.y ≤ 100000 by omega) (by omega)
  have e1 := sz_term (x := 0) ht.t1 ht.w0 ht.w2 (show -100000 ≤ -p.z ∧ -p.z ≤ 100000 by omega) h1 (by omega)
  have e2 := sz_term (x := 0) ht.t2 ht.w0 ht.w1 h2 (show -100000 ≤ -p.x ∧ -p.x ≤ 100000 by omega) (by omega)
  have z := szV_zero.mono (show 1 ≤ 77 by omega) (show 0 ≤ 7 by omega)
  have f : ∀ {q : Rat}, szV q 25 0 → szV q 77 7 := fun h => h.mono (by omega) (by omega)
  have g : ∀ {q : Rat}, szV q 51 6 → szV q 77 7 := fun h => h.mono (by omega) (by omega)
  rcases (by omega : a = 0 ∨ a = 1 ∨ a = 2) with rfl | rfl | rfl <;> rcases (by omega : k = 0 ∨ k = 1 ∨ k = 2 ∨ k = 3 ∨ k = 4 ∨ k = 5 ∨ k = 6) with rfl | rfl | rfl | rfl | rfl | rfl | rfl
  all_goals simp only [dotF, frmF, tqF, one_mul', zero_mul', Rat.add_zero, Rat.zero_add]
  all_goals first | exact z | exact f ht.t0 | exact f ht.t1 | exact f ht.t2 | exact g e0.2.2.1 | exact g e1.2.2.1 | exact g e2.2.2.1 | exact e0.2.2.2.1 | exact e1.2.2.2.1 | exact e2.2.2.2.1
theorem mvd_dot (p : Sp) (t : TQ) {a : Nat} (ha : a < 3) : mvd t p a = (co p a : Rat) + dotF (frmF p a) (tqF t) 6 := by
  obtain ⟨h0, h1, h2⟩ := frm_dot p t
  rcases (by omega : a = 0 ∨ a = 1 ∨ a = 2) with rfl | rfl | rfl
  · rw [h0]; rfl
  · rw [h1]; rfl
  · rw [h2]; rfl
def tqT (t : TQ) : TT := ⟨rtoa t.t0, rtoa t.t1, rtoa t.t2, rtoa t.w0, rtoa t.w1, rtoa t.w2⟩
theorem formA_c (p : Sp) (a : Nat) (ha : a < 3) (w : World) (hp : InP p) : Calls Tryz.prog 148 #[.int .i64 (a : Int), spV p] w (Ret w (.agg (i6C (frmF p a)))) := by
  rcases (by omega : a = 0 ∨ a = 1 ∨ a = 2) with rfl | rfl | rfl
  · exact form0_c p w hp
  · exact form1_c p w hp
  · exact form2_c p w hp
end Go.Proofs.Wk
/- POSITION: torsors in the program: where a point goes. -/
namespace Go.Proofs.Wk
open Go.RowKit Mt Po

/-- What lies in memory while a point is moved. -/
structure ApM (w W : World) (gt gp g4 g8 : Nat) (t : TT) (p : Sp) (u0 u1 u2 : Txt) : Prop where
  t : W.heap[gt]? = some (.cells (ttC t) 38 (0, 0))
  p : W.heap[gp]? = some (.cells #[.int .i64 p.x, .int .i64 p.y, .int .i64 p.z] 23 (0, 0))
  r : W.heap[g4]? = some (.cells #[.string ⟨#[]⟩, .string ⟨#[]⟩, .string ⟨#[]⟩] 36 (0, 0))
  o : W.heap[g8]? = some (.cells #[.string ⟨u0.toArray⟩, .string ⟨u1.toArray⟩, .string ⟨u2.toArray⟩] 36 (0, 0))
  w : Below w.heap.size w W
theorem ApM.later {w W W' : World} {gt gp g4 g8 : Nat} {t : TT} {p : Sp} {u0 u1 u2 : Txt} (h : ApM w W gt gp g4 g8 t p u0 u1 u2) (hb : Below W.heap.size W W') : ApM w W' gt gp g4 g8 t p u0 u1 u2 :=
  ⟨keepD h.t hb, keepD h.p hb, keepD h.r hb, keepD h.o hb, h.w.nx hb⟩
theorem ApM.drew {w W : World} {gt gp g4 g8 : Nat} {t : TT} {p : Sp} {u0 u1 u2 : Txt} (h : ApM w W gt gp g4 g8 t p u0 u1 u2) : ApM w W.drew gt gp g4 g8 t p u0 u1 u2 := ⟨h.t, h.p, h.r, h.o, h.w.drew⟩
theorem ApM.put {w W : World} {gt gp g4 g8 : Nat} {t : TT} {p : Sp} {u0 u1 u2 : Txt} (h : ApM w W gt gp g4 g8 t p u0 u1 u2) (hg : gt < g8 ∧ gp < g8 ∧ g4 < g8 ∧ w.heap.size ≤ g8) (v : Txt) :
    ApM w (W.setCell ⟨g8, 0, none⟩ (.string ⟨v.toArray⟩)) gt gp g4 g8 t p v u1 u2 ∧ ApM w (W.setCell ⟨g8, 1, none⟩ (.string ⟨v.toArray⟩)) gt gp g4 g8 t p u0 v u2 ∧ ApM w (W.setCell ⟨g8, 2, none⟩ (.string ⟨v.toArray⟩)) gt gp g4 g8 t p u0 u1 v := by
  obtain ⟨h1, h2, h3, h4⟩ := hg
  have k : ∀ (j : Nat) {gg : Nat} {o : Obj}, gg < g8 → W.heap[gg]? = some o → (W.setCell ⟨g8, j, none⟩ (.string ⟨v.toArray⟩)).heap[gg]? = some o := fun j gg o hl hh => (heap_setCell_other _ _ _ _ (Nat.ne_of_lt hl)).trans hh
  exact ⟨⟨k 0 h1 h.t, k 0 h2 h.p, k 0 h3 h.r, heap_setCell_same _ g8 0 _ _ _ h.o, h.w.cel h4 _⟩, ⟨k 1 h1 h.t, k 1 h2 h.p, k 1 h3 h.r, heap_setCell_same _ g8 1 _ _ _ h.o, h.w.cel h4 _⟩, ⟨k 2 h1 h.t, k 2 h2 h.p, k 2 h3 h.r, heap_setCell_same _ g8 2 _ _ _ h.o, h.w.cel h4 _⟩⟩
theorem sp1 (w : World) (p : Sp) (t : TypeId) : SlX (w.alloc (.cells #[.int .i64 p.x, .int .i64 p.y, .int .i64 p.z] t)) (.slice (some ⟨w.heap.size, 0, none⟩) 1 1) [p] :=
  .inr ⟨w.heap.size, 0, 1, rfl, RX.lit w [p] t, alloc_lt w _⟩
theorem s3row {w : World} {g : Nat} {u0 u1 u2 v0 v1 v2 : Value} {T : TypeId} (h : w.heap[g]? = some (.cells #[u0, u1, u2] T (0, 0))) :
    (((w.setCell ⟨g, 0, none⟩ v0).setCell ⟨g, 1, none⟩ v1).setCell ⟨g, 2, none⟩ v2).heap[g]? = some (.cells #[v0, v1, v2] T (0, 0)) :=
  heap_setCell_same _ g 2 _ _ v2 (heap_setCell_same _ g 1 _ _ v1 (heap_setCell_same w g 0 _ _ v0 h))
set_option maxRecDepth 100000 in
theorem co_run (p : Sp) {k : Nat} (h : k < 3) (W : World) : (Instr.index 173 (spV p) (.int .i64 (k : Int))).run Tryz.prog W = .ok (.int .i64 (co p k)) W := by
  rcases (by omega : k = 0 ∨ k = 1 ∨ k = 2) with rfl | rfl | rfl
  all_goals rfl
set_option maxRecDepth 100000 in
set_option maxHeartbeats 8000000 in
theorem Apply_c (t : TQ) (p : Sp) (w : World) (hg : Good w) (ht : ShT t) (hp : InP p) :
    Calls Tryz.prog 97 #[ttV (tqT t), spV p] w (Ret w (.tuple #[.agg #[.string ⟨(rtoa (mvd t p 0)).toArray⟩, .string ⟨(rtoa (mvd t p 1)).toArray⟩, .string ⟨(rtoa (mvd t p 2)).toArray⟩], .int .i64 0])) := by
  have h0 : ttE (tqT t) = 0 := by
    have : (tqT t).l = [t.t0, t.t1, t.t2, t.w0, t.w1, t.w2].map rtoa := rfl
    unfold ttE; rw [this]
    refine firstR_ok fun q hq => ?_
    simp only [List.mem_cons, List.not_mem_nil, or_false] at hq
    rcases hq with rfl | rfl | rfl | rfl | rfl | rfl
    · exact ht.t0.okq (by omega)
    · exact ht.t1.okq (by omega)
    · exact ht.t2.okq (by omega)
    · exact ht.w0.okq (by omega)
    · exact ht.w1.okq (by omega)
    · exact ht.w2.okq (by omega)
  have hl : ∀ l ∈ (tqT t).l, l.length ≤ 140737488355328 := by
    intro l hl
    simp only [TT.l, tqT, List.mem_cons, List.not_mem_nil, or_false] at hl
    rcases hl with rfl | rfl | rfl | rfl | rfl | rfl
    · exact tlen (ht.t0.okq (by omega))
    · exact tlen (ht.t1.okq (by omega))
    · exact tlen (ht.t2.okq (by omega))
    · exact tlen (ht.w0.okq (by omega))
    · exact tlen (ht.w1.okq (by omega))
    · exact tlen (ht.w2.okq (by omega))
  have hk1 : Po.chkS [p] = 0 := by
    unfold Po.chkS
    rw [if_neg (by simp), if_pos (by simp [inP_iff.2 hp])]
  have HCK := Lib.hid (fun W (h : Below w.heap.size w W) => by have := torCheck_c (tqT t) W (hg.later h) hl; rwa [h0] at this)
  have HCS := Lib.hid (fun W (v : Value) (S : SlX W v [p]) => by have := vCheckS_c [p] W S (by simp); rwa [hk1] at this)
  have HCO := Lib.hid (fun W => tcoord_c p W)
  have HF := Lib.hid (fun (k : Nat) (hk : k < 3) W => formA_c p k hk W hp)
  have HN := Lib.hid (fun W => numbers_c (tqT t) W)
  have HT := Lib.hid (fun (k : Nat) (hk : k < 3) W (h : Below w.heap.size w W) => ttimes_c (frmF p k) (tqF t) W (hg.later h) (fun j hj => frmF_in hp hk hj) (fun j hj => tqF_sz ht hj) (fun j hj => frm_sz hp ht hk hj))
  have HW := Lib.hid (fun (k : Nat) W (h : Below w.heap.size w W) => wholeR (co p k) W (hg.later h) (by have := hp.co k; omega))
  have HA := Lib.hid (fun (k : Nat) (hk : k < 3) W (h : Below w.heap.size w W) => by
    have := addR (szV_co (hp.co k)) (frm_sz hp ht hk (Nat.le_refl 6)) (m := 7) (by omega) (by omega) (by omega) W (hg.later h)
    rwa [← mvd_dot p t hk] at this)
  have HI := Lib.hid (fun (k : Nat) (hk : k < 3) => co_run p hk)
  have hq6 : (Value.agg (q6C (tqF t))) = ttV (tqT t) := rfl
  rw [hq6] at HT
  have hA := bx3 w (.cells (ttC (tqT t)) 38) (.cells #[.int .i64 p.x, .int .i64 p.y, .int .i64 p.z] 23) (.cells #[.string ⟨#[]⟩, .string ⟨#[]⟩, .string ⟨#[]⟩] 36)
  have hrr := heap_alloc_new ((w.alloc (.cells (ttC (tqT t)) 38)).alloc (.cells #[.int .i64 p.x, .int .i64 p.y, .int .i64 p.z] 23)) (.cells #[.string ⟨#[]⟩, .string ⟨#[]⟩, .string ⟨#[]⟩] 36)
  rw [World.size_alloc, World.size_alloc] at hrr
  have hrp := keepD (nw2 w (ttC (tqT t)) #[.int .i64 p.x, .int .i64 p.y, .int .i64 p.z] 38 23) (below_al _ (.cells #[.string ⟨#[]⟩, .string ⟨#[]⟩, .string ⟨#[]⟩] 36))
  have hrt := keepD (heap_alloc_new w (.cells (ttC (tqT t)) 38)) (bx2 _ (.cells #[.int .i64 p.x, .int .i64 p.y, .int .i64 p.z] 23) (.cells #[.string ⟨#[]⟩, .string ⟨#[]⟩, .string ⟨#[]⟩] 36))
  generalize hm : mvd t p = mv at *
  clear hg hl h0 hk1 hm hq6
  generalize tqT t = tt at *
  clear ht
  go_enter Tryz.func97, Tryz.ntmps97
  go_upto_region 1 with fail
  generalize hW0 : ((w.alloc (.cells (ttC tt) 38)).alloc (.cells #[.int .i64 p.x, .int .i64 p.y, .int .i64 p.z] 23)).alloc (.cells #[.string ⟨#[]⟩, .string ⟨#[]⟩, .string ⟨#[]⟩] 36) = W0 at *
  clear hW0
  obtain ⟨t0, t1, t2, t3, t4, t5⟩ := c6row hrt
  have hgp : w.heap.size ≤ w.heap.size + 1 := by omega
  have hg4 : w.heap.size ≤ w.heap.size + 1 + 1 := by omega
  generalize w.heap.size + 1 + 1 = g4 at *
  generalize w.heap.size + 1 = gp at *
  go_wp2_with fail
  ((with_reducible refine (HCK.out _ hA).mono ?_); rintro e w1 ⟨rfl, hb1⟩)
  have hrt1 := keepD hrt hb1
  have hrp1 := keepD hrp hb1
  have hrr1 := keepD hrr hb1
  have hB1 := hA.nx hb1
  clear hrt hrp hrr hA hb1 t0 t1 t2 t3 t4 t5
  obtain ⟨p0, p1, p2⟩ := c3row hrp1
  go_wp2_with fail
  have SS := sp1 w1 p 23
  have hal := below_al w1 (.cells #[.int .i64 p.x, .int .i64 p.y, .int .i64 p.z] 23)
  generalize w1.alloc (.cells #[.int .i64 p.x, .int .i64 p.y, .int .i64 p.z] 23) = W1 at *
  ((with_reducible refine (HCS.out _ _ SS).mono ?_); rintro e w2 ⟨rfl, hb2⟩)
  have hbb := hal.nx hb2
  have J2 : ApM w (w2.alloc (.cells #[.string ⟨#[]⟩, .string ⟨#[]⟩, .string ⟨#[]⟩] 36)) w.heap.size gp g4 w2.heap.size tt p [] [] [] :=
    ⟨keepD (keepD hrt1 hbb) (below_al _ _), keepD (keepD hrp1 hbb) (below_al _ _), keepD (keepD hrr1 hbb) (below_al _ _), heap_alloc_new w2 _, (hB1.nx hbb).nx (below_al _ _)⟩
  have hg8 : w.heap.size < w2.heap.size ∧ gp < w2.heap.size ∧ g4 < w2.heap.size ∧ w.heap.size ≤ w2.heap.size :=
    ⟨(Array.getElem?_eq_some_iff.1 (keepD hrt1 hbb)).1, (Array.getElem?_eq_some_iff.1 (keepD hrp1 hbb)).1, (Array.getElem?_eq_some_iff.1 (keepD hrr1 hbb)).1, (hB1.nx hbb).size⟩
  obtain ⟨p0, p1, p2⟩ := c3row J2.p
  clear hbb hb2 hal SS hrt1 hrp1 hrr1 hB1
  go_wp2_with fail
  generalize w2.alloc (.cells #[.string ⟨#[]⟩, .string ⟨#[]⟩, .string ⟨#[]⟩] 36) = W2 at *
  generalize w2.heap.size = g8 at *
  ((with_reducible refine (HCO.out _).mono ?_); rintro e w3 ⟨rfl, hb3⟩)
  have HJ := Lib.hid (J2.later hb3)
  have HG := Lib.hid hg8
  have HG4 := Lib.hid hg4
  clear J2 hb3 p0 p1 p2 hg8 hgp hg4
  go_wp2_with fail
  go_loopw [28] (fun si wr => ∃ (k : Nat) (u0 u1 u2 : Txt), si = .int .i64 (k : Int) ∧ k ≤ 3 ∧ Hid (ApM w wr w.heap.size gp g4 g8 tt p u0 u1 u2) ∧ Hid ((0 < k → u0 = rtoa (mv 0)) ∧ (1 < k → u1 = rtoa (mv 1)) ∧ (2 < k → u2 = rtoa (mv 2)))) (fun si _ => 3 - (intOf si).toNat)
  case atStart => exact ⟨0, [], [], [], rfl, Nat.zero_le _, HJ.out, fun h => absurd h (by omega), fun h => absurd h (by omega), fun h => absurd h (by omega)⟩
  case round =>
    obtain ⟨k, u0, u1, u2, rfl, hk, hJ, hU⟩ := hrel
    by_cases hlt : k < 3
    · have hix := HI.out k hlt
      obtain ⟨t0, t1, t2, t3, t4, t5⟩ := c6row hJ.out.t
      obtain ⟨p0, p1, p2⟩ := c3row hJ.out.p
      have HF1 := Lib.hid (fun W => HF.out k hlt W)
      have HT1 := Lib.hid (fun W h => HT.out k hlt W h)
      have HW1 := Lib.hid (fun W h => HW.out k W h)
      have HA1 := Lib.hid (fun W h => HA.out k hlt W h)
      obtain ⟨tm, htm⟩ : ∃ t, rtoa (mv k) = t := ⟨_, rfl⟩
      rw [htm] at HA1
      have HTM := Lib.hid htm
      clear htm
      have i0 : (0 : Int) ≤ (k : Int) := by omega
      have i1 : (k : Int) < 3 := by omega
      generalize rtoa (dotF (frmF p k) (tqF t) 6) = td at *
      generalize rtoa ((co p k : Int) : Rat) = tc at *
      generalize Value.agg (i6C (frmF p k)) = FV at *
      generalize co p k = cp at *
      go_upto_region 11 with fail
      go_region_with (first
        | (go_at_call 148; (with_reducible refine (HF1.out _).mono ?_); rintro e w4 ⟨rfl, hb4⟩; (first | have J4 := hJ.out.drew.later hb4 | have J4 := hJ.out.later hb4); obtain ⟨t0, t1, t2, t3, t4, t5⟩ := c6row J4.t)
        | (go_at_call 47; (with_reducible refine (HN.out _).mono ?_); rintro e w5 ⟨rfl, hb5⟩; (first | have J5 := J4.later hb5 | have J5 := J4.drew.later hb5))
        | (go_at_call 147; (with_reducible refine (HT1.out _ ?_).mono ?_); (first | exact J5.w | exact J5.w.drew); rintro e w6 ⟨rfl, hb6⟩; (first | have J6 := J5.later hb6 | have J6 := J5.drew.later hb6))
        | fail)
      all_goals
        clear p0 p1 p2 t0 t1 t2 t3 t4 t5 hb4 hb5 hb6 J4 J5 hix
        have HJ6 := Lib.hid J6
        clear J6 hJ
        go_wp2_with fail
        ((with_reducible refine (HW1.out _ HJ6.out.w).mono ?_); rintro e w7 ⟨rfl, hb7⟩)
        have HJ7 := Lib.hid (HJ6.out.later hb7)
        clear hb7
        go_wp2_with fail
        ((with_reducible refine (HA1.out _ HJ7.out.w).mono ?_); rintro e w8 ⟨rfl, hb8⟩)
        have HJ8 := Lib.hid (HJ7.out.later hb8)
        clear hb8
        obtain ⟨vv, hvv⟩ : ∃ v, w8.cell? ⟨g8, k, none⟩ = some v := by
          rw [cell_of_row _ _ _ _ _ _ HJ8.out.o]
          rcases (by omega : k = 0 ∨ k = 1 ∨ k = 2) with rfl | rfl | rfl
          all_goals exact ⟨_, rfl⟩
        have hff : w8.frozen? ⟨g8, k, none⟩ = false := free_row HJ8.out.o k
        go_wp2
        go_roundw
        case rel =>
          have hp3 := HJ8.out.put HG.out tm
          rw [← HTM.out] at hp3 ⊢
          obtain ⟨e0, e1, e2⟩ := hU.out
          rcases (by omega : k = 0 ∨ k = 1 ∨ k = 2) with rfl | rfl | rfl
          · exact ⟨1, _, _, _, by go_num, by omega, hp3.1, fun _ => rfl, fun h => absurd h (by omega), fun h => absurd h (by omega)⟩
          · exact ⟨2, _, _, _, by go_num, by omega, hp3.2.1, fun _ => e0 (by omega), fun _ => rfl, fun h => absurd h (by omega)⟩
          · exact ⟨3, _, _, _, by go_num, by omega, hp3.2.2, fun _ => e0 (by omega), fun _ => e1 (by omega), fun _ => rfl⟩
        case measure => simp [intOf]; omega
    · obtain rfl : k = 3 := by omega
      obtain ⟨e0, e1, e2⟩ := hU.out
      obtain rfl := e0 (by omega)
      obtain rfl := e1 (by omega)
      obtain rfl := e2 (by omega)
      clear hU e0 e1 e2
      generalize rtoa (mv 0) = m0 at *
      generalize rtoa (mv 1) = m1 at *
      generalize rtoa (mv 2) = m2 at *
      obtain ⟨o0, o1, o2⟩ := c3row hJ.out.o
      obtain ⟨r0, r1, r2⟩ := c3row hJ.out.r
      have hf := fun j => free_row hJ.out.r j
      have hw := hJ.out.w
      go_wp2
      refine bodyPost_ret (res_ct rfl rfl (s3row hJ.out.r) Tryz.underlying36 rfl (by kernel_rfl) rfl) rfl ?_
      exact ⟨rfl, ((hw.cel (p := ⟨g4, 0, none⟩) HG4.out _).cel (p := ⟨g4, 1, none⟩) HG4.out _).cel (p := ⟨g4, 2, none⟩) HG4.out _⟩
end Go.Proofs.Wk
/- POSITION: the axes along which features are bounded, in the program. -/
namespace Go.Proofs.Wk
open Go.RowKit Mt Po

instance : Row Nat where
  enc n := [.int .i64 (n : Int)]
  k := 1
  len _ := rfl
  pos := by decide
  one a u hu := by
    obtain rfl := List.mem_singleton.1 hu
    rfl
theorem RX.nat {w : World} {b off : Nat} {ls : List Nat} (h : RX w b off ls) {i : Nat} (hi : i < ls.length) : w.cell? ⟨b, off + i, none⟩ = some (.int .i64 (ls[i] : Int)) := by
  have := h i hi 0 (by decide)
  simpa [Row.k, Row.enc] using this
/-- A call that makes a slice of ints. -/
def NewN (w : World) (ls : List Nat) (e : Ending) (w' : World) : Prop := ∃ v, e = .returned v ∧ SlX w' v ls ∧ Below w.heap.size w w'
theorem axes_along (axis : Int) (h : 0 ≤ axis ∧ axis < 3) {kind : Int} (hk : kind = 0 ∨ kind = 3) : axesL kind axis = [axis.toNat] := by
  obtain rfl | rfl | rfl : axis = 0 ∨ axis = 1 ∨ axis = 2 := by omega
  all_goals rcases hk with rfl | rfl <;> decide
theorem axes_pin (axis : Int) : axesL 2 axis = axesL 1 axis := rfl
set_option maxRecDepth 100000 in
set_option maxHeartbeats 1000000 in
theorem along_c (axis : Int) (w : World) (h : 0 ≤ axis ∧ axis < 3) : Calls Tryz.prog 149 #[.int .i64 axis] w (NewN w [axis.toNat]) := by
  obtain ⟨n, rfl⟩ : ∃ n : Nat, axis = (n : Int) := ⟨axis.toNat, by omega⟩
  rw [Int.toNat_natCast]
  clear h
  go_enter Tryz.func149, Tryz.ntmps149
  go_wp2
  go_ret
  exact ⟨_, rfl, .inr ⟨w.heap.size, 0, 1, rfl, RX.lit w [n] 3, alloc_lt w _⟩, below_al w _⟩
set_option maxRecDepth 100000 in
set_option maxHeartbeats 1000000 in
theorem every_c (axis : Int) (w : World) : Calls Tryz.prog 151 #[.int .i64 axis] w (NewN w [0, 1, 2]) := by
  go_enter Tryz.func151, Tryz.ntmps151
  go_wp2
  go_ret
  exact ⟨_, rfl, .inr ⟨w.heap.size, 0, 3, rfl, RX.lit w [0, 1, 2] 3, alloc_lt w _⟩, below_al w _⟩
def axTo (axis : Int) (k : Nat) : List Nat := (List.range k).filter (bnd 1 axis)
theorem axTo_yes {axis : Int} {k : Nat} (h : (k : Int) ≠ axis) : axTo axis (k + 1) = axTo axis k ++ [k] := by
  unfold axTo; rw [List.range_succ, List.filter_append]; simp [bnd, h]
theorem axTo_no {axis : Int} {k : Nat} (h : (k : Int) = axis) : axTo axis (k + 1) = axTo axis k := by
  unfold axTo; rw [List.range_succ, List.filter_append]; simp [bnd, h]
theorem axTo_len (axis : Int) (k : Nat) : (axTo axis k).length ≤ k := by unfold axTo; exact Nat.le_trans (List.length_filter_le _ _) (by simp)
set_option maxRecDepth 100000 in
set_option maxHeartbeats 2000000 in
theorem across_c (axis : Int) (w : World) : Calls Tryz.prog 150 #[.int .i64 axis] w (NewN w (axesL 1 axis)) := by
  have HY := Lib.hid (fun k => axTo_yes (axis := axis) (k := k))
  have HNO := Lib.hid (fun k => axTo_no (axis := axis) (k := k))
  have HLN := Lib.hid (axTo_len axis)
  have H0 := Lib.hid (show axTo axis 0 = [] from rfl)
  rw [show axesL 1 axis = axTo axis 3 from rfl]
  generalize axTo axis = L at *
  go_enter Tryz.func150, Tryz.ntmps150
  go_wp2_with fail
  go_loopw [3, 5] (fun sv si wr => ∃ k : Nat, si = .int .i64 (k : Int) ∧ k ≤ 3 ∧ Hid (OwX 3 wr w.heap.size sv (L k)) ∧ Hid (Below w.heap.size w wr)) (fun _ si _ => 3 - (intOf si).toNat)
  case atStart => exact ⟨0, rfl, Nat.zero_le _, by rw [H0.out]; exact OwX.nil _ _ _, Below.refl _ _⟩
  case round =>
    obtain ⟨k, rfl, hk, hO, hB⟩ := hrel
    by_cases hlt : k < 3
    · have z3 : (k : Int) < 3 := by omega
      by_cases he : (k : Int) = axis
      · have HS := Lib.hid (HNO.out k he)
        have hq : ((k : Int) != axis) = false := by rw [he]; simp
        clear he
        go_wp2
        go_roundw
        case rel => exact ⟨k + 1, by go_num, by omega, by rw [HS.out]; exact hO.out, hB.out⟩
        case measure => simp [intOf]; omega
      · have HS := Lib.hid (HY.out k he)
        have hq : ((k : Int) != axis) = true := bne_iff_ne.2 he
        clear he
        have hal := below_al wr (.cells #[.int .i64 (k : Int)] 3)
        have B3 := Lib.hid (hB.out.nx hal)
        have O3 := Lib.hid (hO.out.later hal)
        have HC5 := Lib.hid (show (wr.alloc (.cells #[.int .i64 (k : Int)] 3)).cell? ⟨wr.heap.size, 0, none⟩ = some (.int .i64 (k : Int)) from c1row (heap_alloc_new wr _))
        clear hal hO hB
        go_wp2_with (at_builtin; refine wpList_app_row rfl _ _ 174 3 rfl Tryz.underlying174 (.int .i64 0) 8 (by decide) (by kernel_rfl) rfl w.heap.size _ (L k) rfl O3.out wr.heap.size k rfl (fun j hj => by obtain rfl : j = 0 := (by simp [Row.k] at hj; exact hj); exact HC5.out) (by have := HLN.out k; omega) B3.out.size ?_)
        intro v' w6 hO6 hb6
        rw [← HS.out] at hO6
        have HO6 := Lib.hid hO6
        have HB6 := Lib.hid (B3.out.trans hb6)
        clear hO6 hb6
        go_wp2
        go_roundw
        case rel => exact ⟨k + 1, by go_num, by omega, HO6.out, HB6.out⟩
        case measure => simp [intOf]; omega
    · obtain rfl : k = 3 := by omega
      have HS := Lib.hid hO.out.sl
      clear hO
      go_wp2
      go_ret
      exact ⟨_, rfl, HS.out, hB.out⟩
abbrev bdC : Array Value := #[.func (.func 149) #[] #[], .func (.func 150) #[] #[], .func (.func 150) #[] #[], .func (.func 149) #[] #[], .func (.func 151) #[] #[]]
set_option maxRecDepth 100000 in
set_option maxHeartbeats 2000000 in
theorem bounded_c (w : World) : Calls Tryz.prog 98 #[] w (Ret w (.agg bdC)) := by
  have hB : Below w.heap.size w (w.alloc (.cells bdC 176)) := below_al w _
  go_enter Tryz.func98, Tryz.ntmps98
  go_upto_region 1 with fail
  rename_i K0 hK0
  refine wp_region_lit ?_
  refine wpList_build rfl 176 _ rfl (by kernel_rfl) ?_
  refine wpList_store_row rfl 176 (.tmp 0) (.tmp 1) rfl w.heap.size bdC rfl (by kernel_rfl) 176 #[.nilFunc, .nilFunc, .nilFunc, .nilFunc, .nilFunc] (heap_alloc_new w _) (by kernel_rfl) rfl (by kernel_rfl) ?_
  rw [World.setRow_alloc_new]
  refine wpList_nil ?_
  refine hK0 _ _ (wp_ret ?_)
  refine bodyPost_ret (results_cell_row rfl _ _ w.heap.size 176 bdC _ _ (by kernel_rfl) (heap_alloc_new w _) Tryz.underlying176 rfl (by kernel_rfl)) rfl ?_
  exact ⟨rfl, hB⟩
end Go.Proofs.Wk
/- POSITION: the deviations of a point, in the program. -/
namespace Go.Proofs.Wk
open Go.RowKit Mt Po

def NewB (w : World) (ls : List Nat) (e : Ending) (w' : World) : Prop := ∃ b off cap, e = .returned (.slice (some ⟨b, off, none⟩) ls.length cap) ∧ RX w' b off ls ∧ b < w'.heap.size ∧ Below w.heap.size w w'
theorem NewN.b {w : World} {ls : List Nat} {e : Ending} {w' : World} (h : NewN w ls e w') (h0 : 0 < ls.length) : NewB w ls e w' := by
  obtain ⟨v, rfl, ⟨a, cap, -, rfl⟩ | ⟨b, off, cap, rfl, hR, hb⟩, hB⟩ := h
  · cases h0
  · exact ⟨b, off, cap, rfl, hR, hb, hB⟩
def OffR (w : World) (ls : List Txt) (e : Ending) (w' : World) : Prop := ∃ v, e = .returned (.tuple #[v, .int .i64 0]) ∧ SlS w' v ls ∧ Below w.heap.size w w'
/-- What lies in memory while deviations are found. -/
structure OfM (w W : World) (gm ga gc : Nat) (m0 m1 m2 : Txt) (p : Sp) (cs : Array Value) : Prop where
  m : W.heap[gm]? = some (.cells #[.string ⟨m0.toArray⟩, .string ⟨m1.toArray⟩, .string ⟨m2.toArray⟩] 36 (0, 0))
  a : W.heap[ga]? = some (.cells #[.int .i64 p.x, .int .i64 p.y, .int .i64 p.z] 173 (0, 0))
  c : W.heap[gc]? = some (.cells cs 34 (0, 0))
  w : Below w.heap.size w W
theorem OfM.later {w W W' : World} {gm ga gc : Nat} {m0 m1 m2 : Txt} {p : Sp} {cs : Array Value} (h : OfM w W gm ga gc m0 m1 m2 p cs) (hb : Below W.heap.size W W') : OfM w W' gm ga gc m0 m1 m2 p cs := ⟨keepD h.m hb, keepD h.a hb, keepD h.c hb, h.w.nx hb⟩
theorem OfM.drew {w W : World} {gm ga gc : Nat} {m0 m1 m2 : Txt} {p : Sp} {cs : Array Value} (h : OfM w W gm ga gc m0 m1 m2 p cs) : OfM w W.drew gm ga gc m0 m1 m2 p cs := ⟨h.m, h.a, h.c, h.w.drew⟩
structure OfX (w W : World) (gm ga b off : Nat) (m0 m1 m2 : Txt) (p : Sp) (ls : List Nat) : Prop where
  m : W.heap[gm]? = some (.cells #[.string ⟨m0.toArray⟩, .string ⟨m1.toArray⟩, .string ⟨m2.toArray⟩] 36 (0, 0))
  a : W.heap[ga]? = some (.cells #[.int .i64 p.x, .int .i64 p.y, .int .i64 p.z] 173 (0, 0))
  x : RX W b off ls
  l : b < W.heap.size
  w : Below w.heap.size w W
theorem OfX.later {w W W' : World} {gm ga b off : Nat} {m0 m1 m2 : Txt} {p : Sp} {ls : List Nat} (h : OfX w W gm ga b off m0 m1 m2 p ls) (hb : Below W.heap.size W W') : OfX w W' gm ga b off m0 m1 m2 p ls :=
  ⟨keepD h.m hb, keepD h.a hb, h.x.later hb h.l, Nat.lt_of_lt_of_le h.l hb.size, h.w.nx hb⟩
theorem OfX.drew {w W : World} {gm ga b off : Nat} {m0 m1 m2 : Txt} {p : Sp} {ls : List Nat} (h : OfX w W gm ga b off m0 m1 m2 p ls) : OfX w W.drew gm ga b off m0 m1 m2 p ls := ⟨h.m, h.a, h.x, h.l, h.w.drew⟩
theorem OfX.dN {w W : World} {gm ga b off : Nat} {m0 m1 m2 : Txt} {p : Sp} {ls : List Nat} (h : OfX w W gm ga b off m0 m1 m2 p ls) (n : Nat) : OfX w (W.drewN n) gm ga b off m0 m1 m2 p ls := ⟨h.m, h.a, h.x, h.l, ⟨h.w.os, h.w.tape, h.w.output, h.w.size, h.w.block⟩⟩
theorem m3_cell {W : World} {g : Nat} {f : Nat → Txt} {T : TypeId} {fr : Nat × Nat} (h : W.heap[g]? = some (.cells #[.string ⟨(f 0).toArray⟩, .string ⟨(f 1).toArray⟩, .string ⟨(f 2).toArray⟩] T fr)) {k : Nat} (hk : k < 3) : W.cell? ⟨g, k, none⟩ = some (.string ⟨(f k).toArray⟩) := by
  rw [cell_of_row _ _ _ _ _ _ h]
  rcases (by omega : k = 0 ∨ k = 1 ∨ k = 2) with rfl | rfl | rfl <;> rfl
theorem a3_cell {W : World} {g : Nat} {p : Sp} {T : TypeId} {fr : Nat × Nat} (h : W.heap[g]? = some (.cells #[.int .i64 p.x, .int .i64 p.y, .int .i64 p.z] T fr)) {k : Nat} (hk : k < 3) : W.cell? ⟨g, k, none⟩ = some (.int .i64 (co p k)) := by
  rw [cell_of_row _ _ _ _ _ _ h]
  rcases (by omega : k = 0 ∨ k = 1 ∨ k = 2) with rfl | rfl | rfl <;> rfl
theorem nw3 (w : World) (o1 o2 o3 : Array Value) (t1 t2 t3 : TypeId) : (((w.alloc (.cells o1 t1)).alloc (.cells o2 t2)).alloc (.cells o3 t3)).heap[w.heap.size + 1 + 1]? = some (.cells o3 t3 (0, 0)) := by
  have := heap_alloc_new ((w.alloc (.cells o1 t1)).alloc (.cells o2 t2)) (.cells o3 t3)
  rwa [World.size_alloc, World.size_alloc] at this
end Go.Proofs.Wk
