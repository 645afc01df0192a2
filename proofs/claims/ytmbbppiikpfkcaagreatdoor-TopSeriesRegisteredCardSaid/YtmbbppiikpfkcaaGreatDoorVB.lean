/- DISTRIBUTIONS: their elements; sums over them. -/
import Derived.Test.YtmbbppiikpfkcaaGreatDoorVA
import Derived.Test.YtmbbppiikpfkcaaGreatDoorKB
import Derived.Test.YtmbbppiikpfkcaaGreatDoorGL
import Derived.Test.YtmbbppiikpfkcaaGreatDoorKD
import Derived.Deep.AppendLies
namespace Go.Proofs.Wk
open Go.RowKit Mt

abbrev wdC (x : Rg.Wd) : List Value := [.int .i64 x.v, .string ⟨(Lib.itoa x.w).toArray⟩]
abbrev wdV (x : Rg.Wd) : Value := .agg #[.int .i64 x.v, .string ⟨(Lib.itoa x.w).toArray⟩]
instance : Row Rg.Wd where
  enc := wdC
  k := 2
  len _ := rfl
  pos := by decide
  one a u hu := by
    simp only [wdC, List.mem_cons, List.not_mem_nil, or_false] at hu
    rcases hu with rfl | rfl <;> rfl
theorem RX.wd {w : World} {b off : Nat} {ls : List Rg.Wd} (h : RX w b off ls) {i : Nat} (hi : i < ls.length) :
    w.cell? ⟨b, off + i * 2, none⟩ = some (.int .i64 ls[i].v) ∧ w.cell? ⟨b, off + i * 2 + 1, none⟩ = some (.string ⟨(Lib.itoa ls[i].w).toArray⟩) := ⟨h i hi 0 (by decide), h i hi 1 (by decide)⟩
/-- A right distribution of a short series. -/
structure DsR (ds : List Rg.Wd) : Prop where
  len : ds.length ≤ 16
  val : ∀ a ∈ ds, -1048576 ≤ a.v ∧ a.v ≤ 1048576
  wt : ∀ a ∈ ds, 1 ≤ a.w ∧ a.w ≤ 16
theorem bal (w : World) (o : Obj) : Below w.heap.size w (w.alloc o) := (Below.refl _ _).alloc (Nat.le_refl _) _
theorem cell2 {w : World} {b : Nat} {u0 u1 : Value} {T : TypeId} {fr : Nat × Nat} (h : w.heap[b]? = some (.cells #[u0, u1] T fr)) : w.cell? ⟨b, 0, none⟩ = some u0 ∧ w.cell? ⟨b, 1, none⟩ = some u1 :=
  ⟨by rw [cell_of_row _ _ _ _ _ _ h]; rfl, by rw [cell_of_row _ _ _ _ _ _ h]; rfl⟩
theorem lng_sm {m : Int} (h0 : -1000 < m) (h1 : m < 1000) : lng m ≤ 1024 := Nat.le_trans ((lng_le m (k := 3) (by omega)).2 (by omega)) (by omega)
def psum (f : Rg.Wd → Int) (ds : List Rg.Wd) (i : Nat) : Int := ((ds.take i).map f).sum
theorem psum_step (f : Rg.Wd → Int) (ds : List Rg.Wd) {i : Nat} (h : i < ds.length) : psum f ds (i + 1) = psum f ds i + f ds[i] := by
  unfold psum
  rw [← List.take_append_getElem h, List.map_append, List.sum_append]
  simp
theorem psum_all (f : Rg.Wd → Int) (ds : List Rg.Wd) : psum f ds ds.length = (ds.map f).sum := by unfold psum; rw [List.take_length]
theorem psum_bd {f : Rg.Wd → Int} {ds : List Rg.Wd} (hf : ∀ a ∈ ds, 0 ≤ f a ∧ f a ≤ 16) : ∀ i, i ≤ ds.length → 0 ≤ psum f ds i ∧ psum f ds i ≤ 16 * i
  | 0, _ => by simp [psum]
  | i + 1, h => by
    have h1 := psum_bd hf i (by omega)
    have h2 := hf _ (List.getElem_mem (show i < ds.length by omega))
    rw [psum_step f ds (show i < ds.length by omega)]
    omega
set_option maxRecDepth 100000 in
theorem within_c (n : Int) (h : -1048576 ≤ n ∧ n ≤ 1048576) (w : World) : Calls Tryz.prog 39 #[.int .i64 n] w (Pur w (.bool true)) := by
  have h1 := h.1
  have h2 := h.2
  have y1 : decide (-1048576 ≤ n) = true := decide_eq_true h1
  have y2 : decide (n ≤ 1048576) = true := decide_eq_true h2
  clear h
  go_enter Tryz.func39, Tryz.ntmps39
  go_wp2
  go_ret
  exact ⟨rfl, rfl⟩
set_option maxRecDepth 100000 in
theorem dsign_c (m : Int) (w : World) (hm : lng m ≤ 1024) : Calls Tryz.prog 38 #[.string ⟨(Lib.itoa m).toArray⟩] w (Ret w (.int .i64 (sgn m))) := by
  have HS := Lib.hid (fun W => signI m W hm)
  clear hm
  generalize Lib.itoa m = a at *
  generalize sgn m = s at *
  go_enter Tryz.func38, Tryz.ntmps38
  go_wp2_with fail
  ((with_reducible refine (HS.out _).mono ?_); rintro e w1 ⟨rfl, hb1⟩)
  go_wp2
  go_ret
  exact ⟨rfl, hb1⟩
set_option maxRecDepth 100000 in
theorem weight_c (x : Rg.Wd) (w : World) : Calls Tryz.prog 44 #[wdV x] w (Ret w (ans2 (Lib.itoa x.w, 0))) := by
  obtain ⟨v, n⟩ := x
  show Calls Tryz.prog 44 #[.agg #[.int .i64 v, .string ⟨(Lib.itoa n).toArray⟩]] w (Ret w (ans2 (Lib.itoa n, 0)))
  generalize Lib.itoa n = a
  have hal := bal w (.cells #[.int .i64 v, .string ⟨a.toArray⟩] 55)
  go_enter Tryz.func44, Tryz.ntmps44
  go_wp2
  go_ret2
  exact ⟨rfl, hal⟩
/-- What the closure of Probability yields. -/
def inW (lo hi : Int) (x : Rg.Wd) : Int := if x.v < lo ∨ hi < x.v then 0 else x.w
set_option maxRecDepth 100000 in
theorem inside_c (lo hi : Int) (x : Rg.Wd) (w : World) (g : Nat) (hg : g < w.heap.size) (hl : w.cell? ⟨g, 0, none⟩ = some (.int .i64 lo)) (hh : w.cell? ⟨g, 1, none⟩ = some (.int .i64 hi)) :
    Calls Tryz.prog 20 #[wdV x, .pointer (some ⟨g, 0, none⟩)] w (Ret w (ans2 (Lib.itoa (inW lo hi x), 0))) := by
  obtain ⟨v, n⟩ := x
  show Calls Tryz.prog 20 #[.agg #[.int .i64 v, .string ⟨(Lib.itoa n).toArray⟩], .pointer (some ⟨g, 0, none⟩)] w (Ret w (ans2 (Lib.itoa (inW lo hi ⟨v, n⟩), 0)))
  have hal := bal w (.cells #[.int .i64 v, .string ⟨(Lib.itoa n).toArray⟩] 55)
  have k0 := hal.cell (p := ⟨g, 0, none⟩) hg
  have k1 := hal.cell (p := ⟨g, 1, none⟩) hg
  rw [hl] at k0
  rw [hh] at k1
  have hI : inW lo hi ⟨v, n⟩ = if v < lo ∨ hi < v then 0 else n := rfl
  by_cases h1 : v < lo
  · rw [hI, if_pos (Or.inl h1), itoa_zero]
    have y1 : decide (v < lo) = true := decide_eq_true h1
    clear hI h1 hl hh hg
    generalize Lib.itoa n = a at *
    go_enter Tryz.func20, Tryz.ntmps20
    go_wp2
    go_ret2
    exact ⟨rfl, hal⟩
  · have y1 : decide (v < lo) = false := decide_eq_false h1
    by_cases h2 : hi < v
    · rw [hI, if_pos (Or.inr h2), itoa_zero]
      have y2 : decide (hi < v) = true := decide_eq_true h2
      clear hI h1 h2 hl hh hg
      generalize Lib.itoa n = a at *
      go_enter Tryz.func20, Tryz.ntmps20
      go_wp2
      go_ret2
      exact ⟨rfl, hal⟩
    · rw [hI, if_neg (by omega)]
      have y2 : decide (hi < v) = false := decide_eq_false h2
      clear hI h1 h2 hl hh hg
      generalize Lib.itoa n = a at *
      go_enter Tryz.func20, Tryz.ntmps20
      go_wp2
      go_ret2
      exact ⟨rfl, hal⟩

set_option maxRecDepth 100000 in
set_option maxHeartbeats 4000000 in
theorem sumW_c {v : Value} (ds : List Rg.Wd) (w : World) (hg : Good w) (S : SlX w v ds) (R : DsR ds) : Calls Tryz.prog 43 #[v, .func (.func 44) #[] #[]] w (Ret w (ans2 (Lib.itoa (ds.map (Rg.Wd.w)).sum, 0))) := by
  obtain ⟨E, hE⟩ : ∃ E, (ds.map (Rg.Wd.w)).sum = E := ⟨_, rfl⟩
  rw [hE]
  rcases S with ⟨a, cap, rfl, rfl⟩ | ⟨b, off, cap, rfl, hR, hb⟩
  · obtain rfl : 0 = E := hE
    rw [itoa_zero]
    go_enter Tryz.func43, Tryz.ntmps43
    go_wp2_with fail
    refine wp_loop_rounds 1 ?_
    rw [rounds_succ]
    go_wp2
    go_ret2
    exact ⟨rfl, Below.refl _ _⟩
  have hf : ∀ x ∈ ds, 0 ≤ (Rg.Wd.w) x ∧ (Rg.Wd.w) x ≤ 16 := fun x hx => by
    have := R.wt x hx
    exact ⟨by omega, by omega⟩
  have HF := Lib.hid hf
  have HPS := Lib.hid (fun i (h : i ≤ ds.length) => psum_bd hf i h)
  have HST := Lib.hid (fun i (h : i < ds.length) => psum_step (Rg.Wd.w) ds h)
  have HEN := Lib.hid (show psum (Rg.Wd.w) ds ds.length = E by rw [psum_all]; exact hE)
  have HC := Lib.hid (fun x W (h : Below w.heap.size w W) => weight_c x W)
  have hlen := R.len
  have HR := Lib.hid hR
  have HG := Lib.hid hg
  clear hE hR hg hf R
  generalize (Rg.Wd.w) = f at *
  go_enter Tryz.func43, Tryz.ntmps43
  go_wp2_with fail
  go_loopw [6, 13] (fun so si wr => ∃ i : Nat, so = .string ⟨(Lib.itoa (psum f ds i)).toArray⟩ ∧ si = .int .i64 (i : Int) ∧ i ≤ ds.length ∧ Below w.heap.size w wr) (fun _ si _ => ds.length - (intOf si).toNat)
  case atStart => exact ⟨0, by rw [show psum f ds 0 = 0 from rfl, itoa_zero], rfl, Nat.zero_le _, Below.refl _ _⟩
  case round =>
    obtain ⟨i, rfl, rfl, hi, hB⟩ := hrel
    by_cases hlt : i < ds.length
    · obtain ⟨k0, k1⟩ := (HR.out.later hB hb).wd hlt
      have hps := HPS.out i hi
      have hst := HST.out i hlt
      have hfx := HF.out _ (List.getElem_mem hlt)
      have HCI := Lib.hid (fun W h => HC.out ds[i] W h)
      generalize ds[i] = x at *
      obtain ⟨xv, xw⟩ := x
      simp only at k0 k1
      have HCI : Hid (∀ W, Below w.heap.size w W → Calls Tryz.prog 44 #[.agg #[.int .i64 xv, .string ⟨(Lib.itoa xw).toArray⟩]] W (Ret W (ans2 (Lib.itoa (f ⟨xv, xw⟩), 0)))) := HCI
      have HAD := Lib.hid (fun W hW => addI (psum f ds i) (f ⟨xv, xw⟩) W hW (lng_sm (by omega) (by omega)) (lng_sm (by omega) (by omega)) (lng_sm (by omega) (by omega)))
      rw [← hst] at HAD
      have J := BX.new wr #[.int .i64 xv, .string ⟨(Lib.itoa xw).toArray⟩] 55
      have HB1 := Lib.hid (hB.trans (J.w.mono hB.size))
      clear hst hps hfx HC J
      obtain ⟨u1, hu1⟩ : ∃ u, Lib.itoa (psum f ds (i + 1)) = u := ⟨_, rfl⟩
      rw [hu1] at HAD
      have HU := Lib.hid hu1
      clear hu1
      generalize psum f ds i = s0 at *
      generalize f ⟨xv, xw⟩ = fx at *
      generalize Lib.itoa xw = tw at *
      generalize Lib.itoa s0 = u0 at *
      generalize Lib.itoa fx = ux at *
      go_wp2_with fail
      go_at_call 44
      ((with_reducible refine (HCI.out _ HB1.out).mono ?_); rintro e w1 ⟨rfl, hb1⟩)
      have HB2 := Lib.hid (HB1.out.trans (hb1.mono HB1.out.size))
      clear hb1 HCI
      go_wp2_with fail
      ((with_reducible refine (HAD.out _ (HG.out.later HB2.out)).mono ?_); rintro e w2 ⟨rfl, hb2⟩)
      have HB3 := Lib.hid (HB2.out.trans (hb2.mono HB2.out.size))
      clear hb2
      go_wp2
      go_roundw
      case rel => exact ⟨i + 1, by rw [HU.out], by go_num, by omega, HB3.out⟩
      case measure => simp [intOf]; omega
    · obtain rfl : i = ds.length := by omega
      rw [HEN.out]
      go_wp2
      go_ret2
      exact ⟨rfl, hB⟩

set_option maxRecDepth 100000 in
set_option maxHeartbeats 4000000 in
theorem sumP_c {v : Value} (ds : List Rg.Wd) (lo hi : Int) (g : Nat) (w : World) (hg : Good w) (S : SlX w v ds) (R : DsR ds) (hgl : g < w.heap.size) (hl : w.cell? ⟨g, 0, none⟩ = some (.int .i64 lo)) (hh : w.cell? ⟨g, 1, none⟩ = some (.int .i64 hi)) : Calls Tryz.prog 43 #[v, .func (.func 20) #[] #[.pointer (some ⟨g, 0, none⟩)]] w (Ret w (ans2 (Lib.itoa (ds.map (inW lo hi)).sum, 0))) := by
  obtain ⟨E, hE⟩ : ∃ E, (ds.map (inW lo hi)).sum = E := ⟨_, rfl⟩
  rw [hE]
  rcases S with ⟨a, cap, rfl, rfl⟩ | ⟨b, off, cap, rfl, hR, hb⟩
  · obtain rfl : 0 = E := hE
    rw [itoa_zero]
    go_enter Tryz.func43, Tryz.ntmps43
    go_wp2_with fail
    refine wp_loop_rounds 1 ?_
    rw [rounds_succ]
    go_wp2
    go_ret2
    exact ⟨rfl, Below.refl _ _⟩
  have hf : ∀ x ∈ ds, 0 ≤ (inW lo hi) x ∧ (inW lo hi) x ≤ 16 := fun x hx => by
    have := R.wt x hx
    unfold inW; split <;> omega
  have HF := Lib.hid hf
  have HPS := Lib.hid (fun i (h : i ≤ ds.length) => psum_bd hf i h)
  have HST := Lib.hid (fun i (h : i < ds.length) => psum_step (inW lo hi) ds h)
  have HEN := Lib.hid (show psum (inW lo hi) ds ds.length = E by rw [psum_all]; exact hE)
  have HC := Lib.hid (fun x W (h : Below w.heap.size w W) => inside_c lo hi x W g (Nat.lt_of_lt_of_le hgl h.size) ((h.cell (p := ⟨g, 0, none⟩) hgl).trans hl) ((h.cell (p := ⟨g, 1, none⟩) hgl).trans hh))
  have hlen := R.len
  have HR := Lib.hid hR
  have HG := Lib.hid hg
  clear hE hR hg hf R
  generalize (inW lo hi) = f at *
  go_enter Tryz.func43, Tryz.ntmps43
  go_wp2_with fail
  go_loopw [6, 13] (fun so si wr => ∃ i : Nat, so = .string ⟨(Lib.itoa (psum f ds i)).toArray⟩ ∧ si = .int .i64 (i : Int) ∧ i ≤ ds.length ∧ Below w.heap.size w wr) (fun _ si _ => ds.length - (intOf si).toNat)
  case atStart => exact ⟨0, by rw [show psum f ds 0 = 0 from rfl, itoa_zero], rfl, Nat.zero_le _, Below.refl _ _⟩
  case round =>
    obtain ⟨i, rfl, rfl, hi, hB⟩ := hrel
    by_cases hlt : i < ds.length
    · obtain ⟨k0, k1⟩ := (HR.out.later hB hb).wd hlt
      have hps := HPS.out i hi
      have hst := HST.out i hlt
      have hfx := HF.out _ (List.getElem_mem hlt)
      have HCI := Lib.hid (fun W h => HC.out ds[i] W h)
      generalize ds[i] = x at *
      obtain ⟨xv, xw⟩ := x
      simp only at k0 k1
      have HCI : Hid (∀ W, Below w.heap.size w W → Calls Tryz.prog 20 #[.agg #[.int .i64 xv, .string ⟨(Lib.itoa xw).toArray⟩], .pointer (some ⟨g, 0, none⟩)] W (Ret W (ans2 (Lib.itoa (f ⟨xv, xw⟩), 0)))) := HCI
      have HAD := Lib.hid (fun W hW => addI (psum f ds i) (f ⟨xv, xw⟩) W hW (lng_sm (by omega) (by omega)) (lng_sm (by omega) (by omega)) (lng_sm (by omega) (by omega)))
      rw [← hst] at HAD
      have J := BX.new wr #[.int .i64 xv, .string ⟨(Lib.itoa xw).toArray⟩] 55
      have HB1 := Lib.hid (hB.trans (J.w.mono hB.size))
      clear hst hps hfx HC J
      obtain ⟨u1, hu1⟩ : ∃ u, Lib.itoa (psum f ds (i + 1)) = u := ⟨_, rfl⟩
      rw [hu1] at HAD
      have HU := Lib.hid hu1
      clear hu1
      generalize psum f ds i = s0 at *
      generalize f ⟨xv, xw⟩ = fx at *
      generalize Lib.itoa xw = tw at *
      generalize Lib.itoa s0 = u0 at *
      generalize Lib.itoa fx = ux at *
      go_wp2_with fail
      go_at_call 20
      ((with_reducible refine (HCI.out _ HB1.out).mono ?_); rintro e w1 ⟨rfl, hb1⟩)
      have HB2 := Lib.hid (HB1.out.trans (hb1.mono HB1.out.size))
      clear hb1 HCI
      go_wp2_with fail
      ((with_reducible refine (HAD.out _ (HG.out.later HB2.out)).mono ?_); rintro e w2 ⟨rfl, hb2⟩)
      have HB3 := Lib.hid (HB2.out.trans (hb2.mono HB2.out.size))
      clear hb2
      go_wp2
      go_roundw
      case rel => exact ⟨i + 1, by rw [HU.out], by go_num, by omega, HB3.out⟩
      case measure => simp [intOf]; omega
    · obtain rfl : i = ds.length := by omega
      rw [HEN.out]
      go_wp2
      go_ret2
      exact ⟨rfl, hB⟩
end Go.Proofs.Wk
/- DISTRIBUTIONS: Check of a right one. -/
namespace Go.Proofs.Wk
open Go.RowKit Mt

set_option maxRecDepth 100000 in
set_option maxHeartbeats 4000000 in
theorem dCheck_c {v : Value} (ds : List Rg.Wd) (w : World) (S : SlX w v ds) (R : DsR ds) (hs : ds.Pairwise fun a b => a.v < b.v) (hne : ds ≠ []) : Calls Tryz.prog 18 #[v] w (Ret w (.int .i64 0)) := by
  rcases S with ⟨a, cap, rfl, rfl⟩ | ⟨b, off, cap, rfl, hR, hb⟩
  · exact absurd rfl hne
  have h0 : ds.length ≠ 0 := fun q => hne (List.length_eq_zero_iff.1 q)
  have h16 := R.len
  have y0 : ((ds.length : Int) == 0) = false := beq_eq_false_iff_ne.2 (by omega)
  have y1 : decide ((4096 : Int) < (ds.length : Int)) = false := decide_eq_false (by omega)
  have y2 : decide (4096 < ds.length) = false := decide_eq_false (by omega)
  have HV := Lib.hid (fun a h => R.val a h)
  have HW := Lib.hid (fun a h => R.wt a h)
  have HS := Lib.hid (fun i (h : i + 1 < ds.length) => List.pairwise_iff_getElem.1 hs i (i + 1) (by omega) h (by omega))
  have HR := Lib.hid hR
  clear hR R hs hne
  go_enter Tryz.func18, Tryz.ntmps18
  go_wp2_with fail
  go_loopw [16] (fun si wr => ∃ i : Nat, si = .int .i64 (i : Int) ∧ i ≤ ds.length ∧ Below w.heap.size w wr) (fun si _ => ds.length - (intOf si).toNat)
  case atStart => exact ⟨0, rfl, Nat.zero_le _, Below.refl _ _⟩
  case round =>
    obtain ⟨i, rfl, hi, hB⟩ := hrel
    by_cases hlt : i < ds.length
    · obtain ⟨k0, k1⟩ := (HR.out.later hB hb).wd hlt
      have hv := HV.out _ (List.getElem_mem hlt)
      have hw := HW.out _ (List.getElem_mem hlt)
      have HQ := Lib.hid (fun k (e : k + 1 = i) => (by subst e; exact ⟨_, rfl, HS.out k hlt⟩ : ∃ q, ds[k].v = q ∧ q < ds[i].v))
      generalize ds[i] = x at *
      obtain ⟨xv, xw⟩ := x
      simp only at k0 k1 hv hw
      have HCK := Lib.hid (fun W => chkI xw W (lng_sm (by omega) (by omega)))
      have HSG := Lib.hid (fun W => dsign_c xw W (lng_sm (by omega) (by omega)))
      rw [sgn_pos (show 0 < xw by omega)] at HSG
      have HWI := Lib.hid (fun W => within_c xv hv W)
      have J := BX.new wr #[.int .i64 xv, .string ⟨(Lib.itoa xw).toArray⟩] 55
      generalize Lib.itoa xw = tw at *
      clear hv hw HV HW
      go_wp2_with fail
      ((with_reducible refine (HCK.out _).mono ?_); rintro e w1 ⟨rfl, hb1⟩)
      have HJ1 := Lib.hid (J.later hb1)
      obtain ⟨c0, c1⟩ := cell2 HJ1.out.c
      clear J hb1 k0 k1
      go_wp2_with fail
      ((with_reducible refine (HSG.out _).mono ?_); rintro e w2 ⟨rfl, hb2⟩)
      have HJ2 := Lib.hid (HJ1.out.later hb2)
      obtain ⟨d0, d1⟩ := cell2 HJ2.out.c
      clear hb2 c0 c1
      go_wp2_with fail
      ((with_reducible refine (HWI.out _).mono ?_); rintro e w' ⟨rfl, rfl⟩)
      have HB2 := Lib.hid (hB.trans (HJ2.out.w.mono hB.size))
      cases i with
      | zero =>
        clear HQ
        go_wp2_with fail
        go_quiet (fail)
        have HB3 := Lib.hid (below_dN HB2.out nq)
        clear d0 d1
        go_wp2
        go_roundw
        case rel => exact ⟨0 + 1, by go_num, by omega, HB3.out⟩
        case measure => simp [intOf]; omega
      | succ k =>
        have hk : k < ds.length := by omega
        obtain ⟨q, hq, hlt2⟩ := HQ.out k rfl
        have q0 := ((HR.out.later HB2.out hb).wd hk).1
        rw [hq] at q0
        have y1 : decide (xv ≤ q) = false := decide_eq_false (by omega)
        clear HQ hlt2 hq
        go_wp2_with fail
        go_quiet (fail)
        have HB3 := Lib.hid (below_dN HB2.out nq)
        clear d0 d1 q0
        go_wp2
        go_roundw
        case rel => exact ⟨k + 1 + 1, by go_num, by omega, HB3.out⟩
        case measure => simp [intOf]; omega
    · obtain rfl : i = ds.length := by omega
      go_wp2
      go_ret
      exact ⟨rfl, hB⟩
end Go.Proofs.Wk
/- COLLECTING A SERIES: what the map holds, and what has been taken from it. -/
namespace Go.Proofs.Wk
open Go.RowKit Mt
open Go Go.ChangeMaps Go.MapKept
open Go.WideElems (Fit rd rg pl rd_val)
open Go.Maps (Keyed)

section
variable {P : Program} {k : TypeId} {w w' : World} {base : Nat} {e : TypeId} {c : Value} {b n : Nat} {D : DataW Unit}
theorem MapR.alloc (h : MapR w P k base e c b n D) (o : Obj) : MapR (w.alloc o) P k base e c b n D := by
  obtain ⟨es, clock, hb, F, hs, rfl, hbb, hlen, hap⟩ := h
  have hblt : b < w.heap.size := (Array.getElem?_eq_some_iff.1 hb).1
  have hg := World.grownBy_alloc w o none
  obtain ⟨F1, hmap, _⟩ := F.stay (R' := repR (w.alloc o) base e c) fun x _ z hz => by
    obtain ⟨ho, rfl⟩ := repR_inv hz
    exact repR_mk (ho.kept hg (by cases x.val.ownBlock <;> simp))
  exact ⟨es, clock, (hg.block b hblt (by simp)).trans hb, F1, hs, by rw [hmap], hbb, hlen, hap⟩
theorem MapR.drew (h : MapR w P k base e c b n D) : MapR w.drew P k base e c b n D := h
theorem MapR.lt (h : MapR w P k base e c b n D) : b < w.heap.size := by
  obtain ⟨es, clock, hb, _⟩ := h
  exact (Array.getElem?_eq_some_iff.1 hb).1
/-- The look-up, in whatever world in which the map is the same. -/
theorem MapR.at2 {t E : TypeId} {key : Value} {kl : Lit} (h : MapR w P k base e c b n D) (K : Keyed P k) (ht : P.underlying t = some (.map k E)) (hz : ∀ w, (zeroValue E).run P w = .ok (.slice none 0 0) w) (hn : n < maxLen) (hkey : keyOf P k key = some kl) :
    ∃ v, (∀ W : World, W.heap[b]? = w.heap[b]? → (Instr.lookup t (.map (some b)) key false).run P W = .ok v W) ∧ D.atKey kl (.lit (.int .i64 0)) = .lit (.int .i64 (slen v)) ∧ Rep w base e c v ∧ slen v ≤ n ∧ MapRB w P t k base e c b n D key kl v := by
  obtain ⟨es, clock, hb, F, hs, rfl, hbb, hlen, hap⟩ := h
  rcases Maps.fit_look false K ht (hz w) hb F hkey with ⟨hrun, hno, hat⟩ | ⟨e0, y, hm0, h3, hrun, hR, hat, _⟩
  · refine ⟨.slice none 0 0, fun W hW => ?_, hat _, Rep.nil _ _ _ _, Nat.zero_le _, rep_back K ht hb F hs hn hbb hlen hap hkey (fun x _ _ => ?_) (by simp [Value.ownBlock])⟩
    · rcases Maps.fit_look false K ht (hz W) (hW.trans hb) F hkey with ⟨hrun', _⟩ | ⟨e1, _, hm1, h4, _⟩
      · exact hrun'
      · exact absurd h4 (hno e1 hm1)
    · cases x.val.ownBlock <;> simp [Value.ownBlock]
  · obtain ⟨ho, rfl⟩ := repR_inv hR
    refine ⟨e0.val, fun W hW => ?_, hat _, ho, hlen e0 hm0, rep_back K ht hb F hs hn hbb hlen hap hkey (fun x hx hne => hap x hx e0 hm0 (by rw [h3]; exact hne)) fun q => ?_⟩
    · rcases Maps.fit_look false K ht (hz W) (hW.trans hb) F hkey with ⟨_, hno, _⟩ | ⟨e1, _, hm1, h4, hrun', _⟩
      · exact absurd h3 (hno e0 hm0)
      · have : e1 = e0 := entry_eq_of_key ((stamped_iff es clock).1 F.stamped).2.2 hm1 hm0 (h4.trans h3.symm)
        rw [this] at hrun'
        exact hrun'
    · have := (World.ownsRow.lt ho b q).1
      omega
theorem ranges_same {H : Type} {R : Value → Option (DataW H × List MemPlace)} {D : DataW H} {r : Nat} {left : Lit → Bool} {cnt : Nat} (h : w.ranges P k R b r n D left cnt) (e1 : w'.heap[b]? = w.heap[b]?) (e2 : w'.heap[r]? = w.heap[r]?) : w'.ranges P k R b r n D left cnt := by
  obtain ⟨es, clock, since, seen, c0, hb, F, hs, hD, hr, rest⟩ := h
  exact ⟨es, clock, since, seen, c0, e1.trans hb, F, hs, hD, e2.trans hr, rest⟩
end
/-- An element is put behind a key's slice: all that follows. -/
theorem put_step {P : Program} {t k : TypeId} {base : Nat} {e : TypeId} {c : Value} {b n : Nat} {D : DataW Unit} {key : Value} {kl : Lit} {u : Value} {w W1 w1 : World} {gg cap : Nat} (hback : MapRB w P t k base e c b n D key kl u) (hrep : Rep w base e c u) (hul : slen u ≤ n)
    (hb : b < w.heap.size) (hW : w.grownBy W1 none) (o : Obj) (hown : w1.ownsRow base e 1 (.slice (some ⟨gg, 0, none⟩) (slen u + 1) cap) (slen u + 1) (List.replicate (slen u) c ++ [c])) (hgrow : (W1.drew.alloc o).grownBy w1 u.ownBlock) (hloc : u.ownBlock = some gg ∨ gg = (W1.drew.alloc o).heap.size) :
    ∃ w2, (Instr.mapUpdate t (.map (some b)) key (.slice (some ⟨gg, 0, none⟩) (slen u + 1) cap)).run P w1 = .ok () w2 ∧ MapR w2 P k base e c b (n + 1) (D.put kl (.lit (.int .i64 ((slen u + 1 : Nat) : Int)))) ∧
      (∀ B, B ≤ base → B ≤ b → B ≤ w.heap.size → Below B w w2) ∧ (∀ g, w.heap.size ≤ g → g < W1.heap.size → w1.heap[g]? = W1.heap[g]? ∧ w2.heap[g]? = W1.heap[g]?) := by
  have hd : w.grownBy W1.drew u.ownBlock := ⟨hW.os, hW.tape, hW.output, hW.size, fun i hi _ => hW.block i hi (by simp)⟩
  have ha := World.grownBy_alloc W1.drew o u.ownBlock
  have hall := hd.trans (ha.trans hgrow)
  have hs1 : W1.drew.heap.size = W1.heap.size := rfl
  have hs2 := ha.size
  obtain ⟨w2, hrun, h1, h2⟩ := hback w1 (.slice (some ⟨gg, 0, none⟩) (slen u + 1) cap) hall (hrep.push hown).1 (by show slen u + 1 ≤ n + 1; omega) (by
    rcases hloc with q | q
    · exact .inl q.symm
    · refine .inr ⟨gg, rfl, ?_⟩
      have := hd.size
      omega)
  refine ⟨w2, hrun, h1, fun B hB1 hB2 hB3 => ?_, fun g hg1 hg2 => ?_⟩
  · exact ((Below.refl B w).grown hall hB3 (fun j hj => by have := (World.ownsRow.lt hrep j hj).1; omega)).grown h2 (Nat.le_trans hB3 hall.size) (fun j hj => by cases hj; exact hB2)
  · have e1 : w1.heap[g]? = W1.heap[g]? := by
      rw [hgrow.block g (by omega) (fun q => by have := (World.ownsRow.lt hrep g q.symm).2; omega), heap_alloc_old W1.drew o g (by omega)]
      rfl
    refine ⟨e1, ?_⟩
    rw [h2.block g (by have := hgrow.size; omega) (fun q => by cases q; omega), e1]
/-- What has been taken from the map. -/
structure PartD (ls : List Int) (left : Lit → Bool) (ds : List Rg.Wd) : Prop where
  nd : (ds.map Rg.Wd.v).Nodup
  cnt : ∀ a ∈ ds, a.w = Rg.cntL ls a.v ∧ a.v ∈ ls ∧ left (.int .i64 a.v) = false
  all : ∀ x ∈ ls, left (.int .i64 x) = true ∨ ∃ a ∈ ds, a.v = x
theorem PartD.start {ls : List Int} {D : DataW Unit} (h : CntD D ls) : PartD ls (Maps.has D) [] :=
  ⟨by simp, by simp, fun x hx => .inl (by rw [h.has, decide_eq_true hx])⟩
theorem PartD.step {ls : List Int} {left : Lit → Bool} {ds : List Rg.Wd} (h : PartD ls left ds) {x : Int} (hx : x ∈ ls) (hl : left (.int .i64 x) = true) {m : Int} (hm : m = Rg.cntL ls x) :
    PartD ls (fun z => left z && !z.sameKey (.int .i64 x)) (ds ++ [⟨x, m⟩]) := by
  refine ⟨?_, fun a ha => ?_, fun z hz => ?_⟩
  · rw [List.map_append, List.nodup_append]
    refine ⟨h.nd, by simp, fun u hu v hv q => ?_⟩
    simp only [List.map_cons, List.map_nil, List.mem_singleton] at hv
    obtain ⟨a, ha, rfl⟩ := List.mem_map.1 hu
    have := (h.cnt a ha).2.2
    rw [q, hv, hl] at this
    cases this
  · rcases List.mem_append.1 ha with ha | ha
    · obtain ⟨h1, h2, h3⟩ := h.cnt a ha
      exact ⟨h1, h2, by rw [h3]; rfl⟩
    · rw [List.mem_singleton.1 ha]
      refine ⟨hm, hx, ?_⟩
      show (left (.int .i64 x) && !(Lit.int .i64 x).sameKey (.int .i64 x)) = false
      rw [WideAt.sameKey_self (show WideAt.IsKeyLit (.int .i64 x) from trivial)]
      simp
  · by_cases q : z = x
    · exact .inr ⟨⟨x, m⟩, by simp, q.symm⟩
    · rcases h.all z hz with h1 | ⟨a, ha, e1⟩
      · left
        show (left (.int .i64 z) && !(Lit.int .i64 z).sameKey (.int .i64 x)) = true
        rw [h1, Maps.sameKey_ne (fun e => q (by cases e; rfl))]
        rfl
      · exact .inr ⟨a, List.mem_append_left _ ha, e1⟩
theorem PartD.len {ls : List Int} {left : Lit → Bool} {ds : List Rg.Wd} (h : PartD ls left ds) : ds.length ≤ ls.length := by
  have := List.Nodup.length_le_of_subset h.nd (l₂ := ls) (fun x hx => by
    obtain ⟨a, ha, rfl⟩ := List.mem_map.1 hx
    exact (h.cnt a ha).2.1)
  rwa [List.length_map] at this
theorem PartD.done {ls : List Int} {left : Lit → Bool} {ds ds' : List Rg.Wd} (h : PartD ls left ds) (hl : ∀ kl, left kl = false) (hp : ds'.Perm ds) (hs : ds'.Pairwise fun a b => a.v ≤ b.v) : Rg.IsD ls ds' := by
  have hn : (ds'.map Rg.Wd.v).Nodup := (hp.map _).nodup_iff.2 h.nd
  refine ⟨?_, fun a ha => ⟨(h.cnt a (hp.mem_iff.1 ha)).1, (h.cnt a (hp.mem_iff.1 ha)).2.1⟩, fun x hx => ?_⟩
  · rw [List.nodup_iff_pairwise_ne, List.pairwise_map] at hn
    exact (hs.and hn).imp fun q => by omega
  · rcases h.all x hx with h1 | ⟨a, ha, e1⟩
    · rw [hl] at h1; cases h1
    · exact ⟨a, hp.mem_iff.2 ha, e1⟩
theorem PartD.ne {ls : List Int} {left : Lit → Bool} {ds : List Rg.Wd} (h : PartD ls left ds) (hl : ∀ kl, left kl = false) (hls : 1 ≤ ls.length) : ds.length ≠ 0 := by
  intro q
  obtain rfl := List.length_eq_zero_iff.1 q
  cases ls with
  | nil => simp at hls
  | cons x l =>
    rcases h.all x (by simp) with h1 | ⟨a, ha, _⟩
    · rw [hl] at h1; cases h1
    · simp at ha
/-- The entry that comes is one of the series. -/
theorem CntD.got {D : DataW Unit} {ls : List Int} (h : CntD D ls) {x : Int} {n : Nat} (hat : ∀ z, D.atKey (.int .i64 x) z = .lit (.int .i64 n)) : x ∈ ls ∧ (n : Int) = Rg.cntL ls x ∧ 1 ≤ n := by
  have hx : x ∈ ls := by
    by_cases hx : x ∈ ls
    · exact hx
    · have := hat .nil
      rw [h.at', if_neg hx] at this
      cases this
  have hn := h.len (hat _)
  have h3 : 0 < ls.countP (· == x) := List.countP_pos_iff.2 ⟨x, hx, by simp⟩
  refine ⟨hx, hn, ?_⟩
  unfold Rg.cntL at hn
  omega
/-- As many ones as there are add up to their number. -/
theorem ones_err : ∀ m : Nat, firstErr (List.replicate m [49]) = 0
  | 0 => rfl
  | m + 1 => by
    rw [List.replicate_succ, firstErr, if_pos (by decide +kernel)]
    exact ones_err m
theorem ones_sum : ∀ m : Nat, ((List.replicate m ([49] : Txt)).map val).sum = m
  | 0 => rfl
  | m + 1 => by
    rw [List.replicate_succ, List.map_cons, List.sum_cons, ones_sum m, show val [49] = 1 by decide +kernel]
    omega
theorem ones_tot {m : Nat} (h : m ≤ 4096) : tot2 (List.replicate m [49]) = (Lib.itoa m, 0) := by
  unfold tot2
  rw [if_neg (by rw [List.length_replicate]; omega), if_pos (ones_err m), ones_sum, kept_small (by omega) (by omega)]
theorem new_wd (W : World) (x : Int) (t : Txt) (m : Int) (ht : t = Lib.itoa m) (T : TypeId) : ∀ j, j < Row.k Rg.Wd → (W.alloc (.cells #[.int .i64 x, .string ⟨t.toArray⟩] T)).cell? ⟨W.heap.size, j, none⟩ = (Row.enc (⟨x, m⟩ : Rg.Wd))[j]? := fun j hj => by
  subst ht
  rw [cell_of_row _ _ _ _ _ _ (heap_alloc_new W _)]
  match j, hj with
  | 0, _ => rfl
  | 1, _ => rfl
/-- A value with the weight one. -/
def one1 (x : Int) : Rg.Wd := ⟨x, 1⟩
theorem itoa_one : Lib.itoa 1 = [49] := by decide +kernel
theorem ones_cell {w : World} {b off : Nat} {ls : List Int} (h : RX w b off (ls.map one1)) {i : Nat} (hi : i < ls.length) :
    w.cell? ⟨b, off + i * 2, none⟩ = some (.int .i64 ls[i]) ∧ w.cell? ⟨b, off + i * 2 + 1, none⟩ = some (.string ⟨#[49]⟩) := by
  obtain ⟨h1, h2⟩ := h.wd (i := i) (by rw [List.length_map]; exact hi)
  rw [List.getElem_map] at h1 h2
  refine ⟨h1, ?_⟩
  rw [h2]
  show some (Value.string ⟨(Lib.itoa 1).toArray⟩) = _
  rw [itoa_one]
end Go.Proofs.Wk
