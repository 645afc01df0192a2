/- SERIES OF INTS: the first bad one; the example; playValues. -/
import Derived.Test.YtmbbppiikpfkcaaGreatDoorVB
import Derived.Test.YtmbbppiikpfkcaaGreatDoorHI
import Derived.Test.YtmbbppiikpfkcaaGreatDoorSeS
import Derived.Deep.RegionHeld3
namespace Go.Proofs.Wk
open Go.RowKit Mt

instance : Row Int where
  enc x := [.int .i64 x]
  k := 1
  len _ := rfl
  pos := by decide
  one a u hu := by
    simp only [List.mem_cons, List.not_mem_nil, or_false] at hu
    rw [hu]; rfl
theorem RX.int {w : World} {b off : Nat} {ls : List Int} (h : RX w b off ls) {i : Nat} (hi : i < ls.length) : w.cell? ⟨b, off + i, none⟩ = some (.int .i64 ls[i]) := by
  have e : w.cell? ⟨b, off + i * 1 + 0, none⟩ = some (.int .i64 ls[i]) := h i hi 0 (by decide)
  rwa [Nat.mul_one, Nat.add_zero] at e
def noB (_ : Int) : Bool := false
def farB (n : Int) : Bool := decide (n < -999) || decide (999 < n)
set_option maxRecDepth 100000 in
theorem far_c (n : Int) (w : World) : Calls Tryz.prog 15 #[.int .i64 n] w (Pur w (.bool (farB n))) := by
  unfold farB
  cases h1 : decide (n < -999) with
  | true =>
    go_enter Tryz.func15, Tryz.ntmps15
    go_wp2
    go_ret
    exact ⟨rfl, rfl⟩
  | false =>
    cases h2 : decide (999 < n) <;>
    · go_enter Tryz.func15, Tryz.ntmps15
      go_wp2
      go_ret
      exact ⟨rfl, rfl⟩
set_option maxRecDepth 100000 in
theorem cin_c (n : Int) (h : -1048576 ≤ n ∧ n ≤ 1048576) (w : World) : Calls Tryz.prog 61 #[.int .i64 n] w (Pur w (.bool true)) := by
  have h1 := h.1
  have h2 := h.2
  have y1 : decide (-1048576 ≤ n) = true := decide_eq_true h1
  have y2 : decide (n ≤ 1048576) = true := decide_eq_true h2
  clear h
  go_enter Tryz.func61, Tryz.ntmps61
  go_wp2
  go_ret
  exact ⟨rfl, rfl⟩
set_option maxRecDepth 100000 in
theorem cbad_c (n : Int) (h : -1048576 ≤ n ∧ n ≤ 1048576) (w : World) : Calls Tryz.prog 60 #[.int .i64 n] w (Pur w (.bool false)) := by
  have HI := Lib.hid (cin_c n h w)
  clear h
  go_enter Tryz.func60, Tryz.ntmps60
  go_wp2_with fail
  ((with_reducible refine HI.out.mono ?_); rintro e w' ⟨rfl, rfl⟩)
  go_wp2
  go_ret
  exact ⟨rfl, rfl⟩

set_option maxRecDepth 100000 in
set_option maxHeartbeats 2000000 in
theorem ixFar_c {v : Value} (ls : List Int) (w : World) (S : SlX w v ls) (hl : ls.length ≤ 1000) : Calls Tryz.prog 34 #[v, .func (.func 15) #[] #[]] w fun e w' => ∃ n : Int, (e = .returned (.int .i64 n) ∧ w' = w) ∧ decide (0 ≤ n) = ls.any (farB) := by
  obtain ⟨E, hE⟩ : ∃ E, ls.any (farB) = E := ⟨_, rfl⟩
  rw [hE]
  rcases S with ⟨a, cap, rfl, rfl⟩ | ⟨b, off, cap, rfl, hR, hb⟩
  · obtain rfl : false = E := hE
    go_enter Tryz.func34, Tryz.ntmps34
    go_wp2_with fail
    refine wp_loop_rounds 1 ?_
    rw [rounds_succ]
    go_wp2
    go_ret
    exact ⟨-1, ⟨rfl, rfl⟩, rfl⟩
  have HC := Lib.hid (fun x W (hx : x ∈ ls) => show Calls Tryz.prog 15 #[.int .i64 x] W (Pur W (.bool ((farB) x))) from far_c x W)
  have HR := Lib.hid hR
  have HE := Lib.hid hE
  clear hR hE 
  generalize (farB) = p at *
  go_enter Tryz.func34, Tryz.ntmps34
  go_wp2_with fail
  go_loopw [8] (fun si wr => ∃ i : Nat, (si = .int .i64 (i : Int) ∧ wr = w) ∧ i ≤ ls.length ∧ Hid ((ls.take i).any p = false)) (fun si _ => ls.length - (intOf si).toNat)
  case atStart => exact ⟨0, ⟨rfl, rfl⟩, Nat.zero_le _, rfl⟩
  case round =>
    obtain ⟨i, ⟨rfl, rfl⟩, hi, hT⟩ := hrel
    by_cases hlt : i < ls.length
    · have k0 := HR.out.int hlt
      have hm := List.getElem_mem hlt
      have HCI := Lib.hid (fun W => HC.out ls[i] W hm)
      have HY := Lib.hid (fun (q : p ls[i] = true) => (by rw [← HE.out]; exact (List.any_eq_true.2 ⟨_, hm, q⟩).symm : true = E))
      have HN := Lib.hid (fun (q : p ls[i] = false) => (by rw [← List.take_append_getElem hlt, List.any_append, hT.out]; simp [q] : (ls.take (i + 1)).any p = false))
      clear hm HC HE hT
      generalize ls[i] = x at *
      cases hp : p x with
      | true =>
        rw [hp] at HCI
        obtain rfl := HY.out hp
        clear HY HN hp
        go_wp2_with fail
        go_at_call 15
        ((with_reducible refine (HCI.out _).mono ?_); rintro e w' ⟨rfl, rfl⟩)
        go_wp2
        go_ret
        exact ⟨i, ⟨rfl, rfl⟩, decide_eq_true (by omega)⟩
      | false =>
        rw [hp] at HCI
        have HN1 := Lib.hid (HN.out hp)
        clear HY HN hp
        go_wp2_with fail
        go_at_call 15
        ((with_reducible refine (HCI.out _).mono ?_); rintro e w' ⟨rfl, rfl⟩)
        go_wp2
        go_roundw
        case rel => exact ⟨i + 1, ⟨by go_num, trivial⟩, by omega, HN1.out⟩
        case measure => simp [intOf]; omega
    · obtain rfl : i = ls.length := by omega
      have hfin := hT.out
      rw [List.take_length, HE.out] at hfin
      subst hfin
      clear hT HC HE
      go_wp2
      go_ret
      exact ⟨-1, ⟨rfl, rfl⟩, rfl⟩
set_option maxRecDepth 100000 in
theorem cfFar_c {v : Value} (ls : List Int) (w : World) (S : SlX w v ls) (hl : ls.length ≤ 1000) : Calls Tryz.prog 14 #[v, .func (.func 15) #[] #[]] w (Pur w (.bool (ls.any (farB)))) := by
  have HI := Lib.hid (ixFar_c ls w S hl)
  clear S hl 
  generalize ls.any (farB) = E at *
  go_enter Tryz.func14, Tryz.ntmps14
  go_wp2_with fail
  ((with_reducible refine HI.out.mono ?_); rintro e w' ⟨n, ⟨rfl, rfl⟩, hd⟩)
  clear HI
  go_wp2
  go_ret
  exact ⟨by simp_all, rfl⟩

set_option maxRecDepth 100000 in
set_option maxHeartbeats 2000000 in
theorem ixBad_c {v : Value} (ls : List Int) (w : World) (S : SlX w v ls) (hl : ls.length ≤ 1000) (hi : ∀ x ∈ ls, -1048576 ≤ x ∧ x ≤ 1048576) : Calls Tryz.prog 34 #[v, .func (.func 60) #[] #[]] w fun e w' => ∃ n : Int, (e = .returned (.int .i64 n) ∧ w' = w) ∧ decide (0 ≤ n) = ls.any (noB) := by
  obtain ⟨E, hE⟩ : ∃ E, ls.any (noB) = E := ⟨_, rfl⟩
  rw [hE]
  rcases S with ⟨a, cap, rfl, rfl⟩ | ⟨b, off, cap, rfl, hR, hb⟩
  · obtain rfl : false = E := hE
    go_enter Tryz.func34, Tryz.ntmps34
    go_wp2_with fail
    refine wp_loop_rounds 1 ?_
    rw [rounds_succ]
    go_wp2
    go_ret
    exact ⟨-1, ⟨rfl, rfl⟩, rfl⟩
  have HC := Lib.hid (fun x W (hx : x ∈ ls) => show Calls Tryz.prog 60 #[.int .i64 x] W (Pur W (.bool ((noB) x))) from cbad_c x (hi x hx) W)
  have HR := Lib.hid hR
  have HE := Lib.hid hE
  clear hR hE hi
  generalize (noB) = p at *
  go_enter Tryz.func34, Tryz.ntmps34
  go_wp2_with fail
  go_loopw [8] (fun si wr => ∃ i : Nat, (si = .int .i64 (i : Int) ∧ wr = w) ∧ i ≤ ls.length ∧ Hid ((ls.take i).any p = false)) (fun si _ => ls.length - (intOf si).toNat)
  case atStart => exact ⟨0, ⟨rfl, rfl⟩, Nat.zero_le _, rfl⟩
  case round =>
    obtain ⟨i, ⟨rfl, rfl⟩, hi, hT⟩ := hrel
    by_cases hlt : i < ls.length
    · have k0 := HR.out.int hlt
      have hm := List.getElem_mem hlt
      have HCI := Lib.hid (fun W => HC.out ls[i] W hm)
      have HY := Lib.hid (fun (q : p ls[i] = true) => (by rw [← HE.out]; exact (List.any_eq_true.2 ⟨_, hm, q⟩).symm : true = E))
      have HN := Lib.hid (fun (q : p ls[i] = false) => (by rw [← List.take_append_getElem hlt, List.any_append, hT.out]; simp [q] : (ls.take (i + 1)).any p = false))
      clear hm HC HE hT
      generalize ls[i] = x at *
      cases hp : p x with
      | true =>
        rw [hp] at HCI
        obtain rfl := HY.out hp
        clear HY HN hp
        go_wp2_with fail
        go_at_call 60
        ((with_reducible refine (HCI.out _).mono ?_); rintro e w' ⟨rfl, rfl⟩)
        go_wp2
        go_ret
        exact ⟨i, ⟨rfl, rfl⟩, decide_eq_true (by omega)⟩
      | false =>
        rw [hp] at HCI
        have HN1 := Lib.hid (HN.out hp)
        clear HY HN hp
        go_wp2_with fail
        go_at_call 60
        ((with_reducible refine (HCI.out _).mono ?_); rintro e w' ⟨rfl, rfl⟩)
        go_wp2
        go_roundw
        case rel => exact ⟨i + 1, ⟨by go_num, trivial⟩, by omega, HN1.out⟩
        case measure => simp [intOf]; omega
    · obtain rfl : i = ls.length := by omega
      have hfin := hT.out
      rw [List.take_length, HE.out] at hfin
      subst hfin
      clear hT HC HE
      go_wp2
      go_ret
      exact ⟨-1, ⟨rfl, rfl⟩, rfl⟩
set_option maxRecDepth 100000 in
theorem cfBad_c {v : Value} (ls : List Int) (w : World) (S : SlX w v ls) (hl : ls.length ≤ 1000) (hi : ∀ x ∈ ls, -1048576 ≤ x ∧ x ≤ 1048576) : Calls Tryz.prog 14 #[v, .func (.func 60) #[] #[]] w (Pur w (.bool (ls.any (noB)))) := by
  have HI := Lib.hid (ixBad_c ls w S hl hi)
  clear S hl hi
  generalize ls.any (noB) = E at *
  go_enter Tryz.func14, Tryz.ntmps14
  go_wp2_with fail
  ((with_reducible refine HI.out.mono ?_); rintro e w' ⟨n, ⟨rfl, rfl⟩, hd⟩)
  clear HI
  go_wp2
  go_ret
  exact ⟨by simp_all, rfl⟩

/-- Whether a series is short, with small values. -/
def plV (ls : List Int) : Bool := decide (1 < ls.length) && decide (ls.length ≤ 16) && !ls.any farB
theorem SlX.hdr {α : Type} [Row α] {w : World} {v : Value} {ls : List α} (h : SlX w v ls) : ∃ a c, v = .slice a ls.length c := by
  rcases h with ⟨a, c, rfl, rfl⟩ | ⟨b, off, cap, rfl, _⟩
  · exact ⟨a, c, rfl⟩
  · exact ⟨_, cap, rfl⟩
set_option maxRecDepth 100000 in
theorem playValues_c {v : Value} (ls : List Int) (w : World) (S : SlX w v ls) : Calls Tryz.prog 4 #[v] w (Pur w (.bool (plV ls))) := by
  have HC := Lib.hid (fun h => cfFar_c ls w S h)
  obtain ⟨a, c, rfl⟩ := S.hdr
  unfold plV
  clear S
  generalize ls.any farB = E at *
  generalize hn : ls.length = n at *
  clear hn
  by_cases h1 : 1 < n
  · have y1 : decide ((1 : Int) < n) = true := decide_eq_true (by omega)
    by_cases h2 : n ≤ 16
    · have y2 : decide ((n : Int) ≤ 16) = true := decide_eq_true (by omega)
      rw [decide_eq_true h1, decide_eq_true h2]
      have HC := Lib.hid (HC.out (by omega))
      clear h1 h2
      go_enter Tryz.func4, Tryz.ntmps4
      go_wp2_with fail
      ((with_reducible refine HC.out.mono ?_); rintro e w' ⟨rfl, rfl⟩)
      go_wp2
      go_ret
      exact ⟨by cases E <;> rfl, rfl⟩
    · have y2 : decide ((n : Int) ≤ 16) = false := decide_eq_false (by omega)
      rw [decide_eq_true h1, decide_eq_false h2]
      clear h1 h2 HC
      go_enter Tryz.func4, Tryz.ntmps4
      go_wp2
      go_ret
      exact ⟨rfl, rfl⟩
  · have y1 : decide ((1 : Int) < n) = false := decide_eq_false (by omega)
    rw [decide_eq_false h1]
    clear h1 HC
    go_enter Tryz.func4, Tryz.ntmps4
    go_wp2
    go_ret
    exact ⟨rfl, rfl⟩
set_option maxRecDepth 100000 in
theorem sum1_c (n : Int) (w : World) : Calls Tryz.prog 90 #[.int .i64 n] w (Pur w (.int .i64 n)) := by
  go_enter Tryz.func90, Tryz.ntmps90
  go_wp2
  go_ret
  exact ⟨rfl, rfl⟩
set_option maxRecDepth 100000 in
theorem sum2_c (m n s : Int) (h : wrap64 (m + n) = s) (w : World) : Calls Tryz.prog 91 #[.int .i64 m, .int .i64 n] w (Pur w (.int .i64 s)) := by
  subst h
  go_enter Tryz.func91, Tryz.ntmps91
  go_wp2
  go_ret
  exact ⟨rfl, rfl⟩
abbrev exL : List Int := [2, 4, 4, 10]
set_option maxRecDepth 100000 in
set_option maxHeartbeats 2000000 in
theorem total_c {b cap : Nat} (w : World) (h : RX w b 0 exL) : Calls Tryz.prog 89 #[.slice (some ⟨b, 0, none⟩) 4 cap, .func (.func 90) #[] #[], .func (.func 91) #[] #[]] w (Pur w (.int .i64 20)) := by
  have k0 : w.cell? ⟨b, 0, none⟩ = some (.int .i64 2) := h.int (i := 0) (by decide)
  have k1 : w.cell? ⟨b, 1, none⟩ = some (.int .i64 4) := h.int (i := 1) (by decide)
  have k2 : w.cell? ⟨b, 2, none⟩ = some (.int .i64 4) := h.int (i := 2) (by decide)
  have k3 : w.cell? ⟨b, 3, none⟩ = some (.int .i64 10) := h.int (i := 3) (by decide)
  clear h
  go_enter Tryz.func89, Tryz.ntmps89
  go_wp2_with fail
  refine wp_loop_rounds 5 ?_
  rw [rounds_succ]
  go_wp2_with fail
  go_at_call 90
  ((with_reducible refine (sum1_c 2 w).mono ?_); rintro e w' ⟨rfl, rfl⟩)
  go_wp2_with fail
  rw [rounds_succ]
  go_wp2_with fail
  go_at_call 90
  ((with_reducible refine (sum1_c 4 w).mono ?_); rintro e w' ⟨rfl, rfl⟩)
  go_wp2_with fail
  go_at_call 91
  ((with_reducible refine (sum2_c 2 4 6 (by unfold wrap64; omega) _).mono ?_); rintro e w' ⟨rfl, rfl⟩)
  go_wp2_with fail
  rw [rounds_succ]
  go_wp2_with fail
  go_at_call 90
  ((with_reducible refine (sum1_c 4 w).mono ?_); rintro e w' ⟨rfl, rfl⟩)
  go_wp2_with fail
  go_at_call 91
  ((with_reducible refine (sum2_c 6 4 10 (by unfold wrap64; omega) _).mono ?_); rintro e w' ⟨rfl, rfl⟩)
  go_wp2_with fail
  rw [rounds_succ]
  go_wp2_with fail
  go_at_call 90
  ((with_reducible refine (sum1_c 10 w).mono ?_); rintro e w' ⟨rfl, rfl⟩)
  go_wp2_with fail
  go_at_call 91
  ((with_reducible refine (sum2_c 10 10 20 (by unfold wrap64; omega) _).mono ?_); rintro e w' ⟨rfl, rfl⟩)
  go_wp2_with fail
  rw [rounds_succ]
  go_wp2
  go_ret
  exact ⟨rfl, rfl⟩
set_option maxRecDepth 100000 in
theorem csum_c {b cap : Nat} (w : World) (h : RX w b 0 exL) : Calls Tryz.prog 62 #[.slice (some ⟨b, 0, none⟩) 4 cap] w (Pur w (.int .i64 20)) := by
  have HT := Lib.hid (total_c (cap := cap) w h)
  clear h
  go_enter Tryz.func62, Tryz.ntmps62
  go_wp2_with fail
  ((with_reducible refine HT.out.mono ?_); rintro e w' ⟨rfl, rfl⟩)
  go_wp2
  go_ret
  exact ⟨rfl, rfl⟩
theorem ex_mean : makQ 20 4 = ([53], 0) := by
  unfold makQ
  rw [if_neg (by decide), show Rat.divInt 20 4 = rv [53] by decide +kernel, show rtoa (rv [53]) = [53] by decide +kernel]
set_option maxRecDepth 100000 in
theorem mean_c {b cap : Nat} (w : World) (hg : Good w) (h : RX w b 0 exL) : Calls Tryz.prog 36 #[.slice (some ⟨b, 0, none⟩) 4 cap] w (Ret w (ans2 ([53], 0))) := by
  have HT := Lib.hid (csum_c (cap := cap) w h)
  have HO := Lib.hid (qOf_c 20 4 w hg (by decide) (by decide) (by decide) (by decide))
  rw [ex_mean] at HO
  clear h hg
  go_enter Tryz.func36, Tryz.ntmps36
  go_wp2_with fail
  ((with_reducible refine HT.out.mono ?_); rintro e w' ⟨rfl, rfl⟩)
  go_wp2_with fail
  ((with_reducible refine HO.out.mono ?_); rintro e w1 ⟨rfl, hb1⟩)
  go_wp2
  go_ret2
  exact ⟨rfl, hb1⟩
set_option maxRecDepth 100000 in
theorem cCheck_c {b cap : Nat} (w : World) (h : RX w b 0 exL) (hb : b < w.heap.size) : Calls Tryz.prog 35 #[.slice (some ⟨b, 0, none⟩) 4 cap] w (Pur w (.int .i64 0)) := by
  have HF := Lib.hid (cfBad_c (v := .slice (some ⟨b, 0, none⟩) 4 cap) exL w (.inr ⟨b, 0, cap, rfl, h, hb⟩) (by decide) (by decide))
  rw [show exL.any noB = false by decide] at HF
  clear h hb
  go_enter Tryz.func35, Tryz.ntmps35
  go_wp2_with fail
  ((with_reducible refine HF.out.mono ?_); rintro e w' ⟨rfl, rfl⟩)
  go_wp2
  go_ret
  exact ⟨rfl, rfl⟩
set_option maxRecDepth 100000 in
theorem Mean_c {b cap : Nat} (w : World) (hg : Good w) (h : RX w b 0 exL) (hb : b < w.heap.size) : Calls Tryz.prog 16 #[.slice (some ⟨b, 0, none⟩) 4 cap] w (Ret w (ans2 ([53], 0))) := by
  have HC := Lib.hid (cCheck_c (cap := cap) w h hb)
  have HM := Lib.hid (mean_c (cap := cap) w hg h)
  clear h hb hg
  go_enter Tryz.func16, Tryz.ntmps16
  go_wp2_with fail
  ((with_reducible refine HC.out.mono ?_); rintro e w' ⟨rfl, rfl⟩)
  go_wp2_with fail
  ((with_reducible refine HM.out.mono ?_); rintro e w1 ⟨rfl, hb1⟩)
  go_wp2
  go_ret2
  exact ⟨rfl, hb1⟩
set_option maxRecDepth 100000 in
/-- The example of the series. -/
theorem playSeries_c (w : World) (hg : Good w) : Calls Tryz.prog 5 #[] w (Ret w (.bool true)) := by
  have hal := bal w (.cells #[.int .i64 2, .int .i64 4, .int .i64 4, .int .i64 10] 3)
  have HM := Lib.hid (Mean_c (cap := 4) _ (hg.later hal) (RX.lit w exL 3) (alloc_lt w _))
  clear hg
  have hsz := hal.size
  go_enter Tryz.func5, Tryz.ntmps5
  go_wp2_with fail
  ((with_reducible refine HM.out.mono ?_); rintro e w1 ⟨rfl, hb1⟩)
  have HB := Lib.hid (hal.trans (hb1.mono hsz))
  clear HM hal hb1
  go_wp2
  go_ret
  exact ⟨rfl, HB.out⟩
end Go.Proofs.Wk
/- DISTRIBUTIONS: Collect. -/
namespace Go.Proofs.Wk
open Go.RowKit Mt
open Go.Maps (Keyed)

theorem law3 : Keyed Tryz.prog 3 := Maps.int_keyed Tryz.underlying3
theorem zeroS (w : World) : (zeroValue 90).run Tryz.prog w = .ok (.slice none 0 0) w := by kernel_rfl
theorem infoI : (Tryz.prog.info? 53).map (fun i => (i.zero, i.size, i.bytes)) = some (some (.string ⟨#[]⟩), 1, 16) := by kernel_rfl
abbrev wOne : Value := .string ⟨#[49]⟩
def mkS (p : Option Addr × Nat × Nat) : Value := .slice p.1 p.2.1 p.2.2
theorem keyI (key : Value) (kl : Lit) (hk : keyOf Tryz.prog 3 key = some kl) : ∃ x, key = Value.int .i64 x := by
  obtain ⟨x, rfl, _⟩ := Maps.keyOf_int_inv Tryz.underlying3 hk
  exact ⟨x, rfl⟩
theorem valS {w : World} {base : Nat} {e : TypeId} {c : Value} (v : Value) (y : DataW Unit × List MemPlace) (hv : repR w base e c v = some y) : ∃ p, v = mkS p := by
  rcases (repR_inv hv).1.shape with rfl | ⟨g, n, cap, rfl, _⟩
  · exact ⟨(none, 0, 0), rfl⟩
  · exact ⟨(some ⟨g, 0, none⟩, n, cap), rfl⟩
theorem shapeS {w : World} {base : Nat} {e : TypeId} {c : Value} {p : Option Addr × Nat × Nat} (h : Rep w base e c (mkS p)) (h1 : 1 ≤ slen (mkS p)) : ∃ g m cp, p = (some ⟨g, 0, none⟩, m, cp) ∧ base ≤ g ∧ g < w.heap.size ∧ ∀ j, j < m → w.cell? ⟨g, j, none⟩ = some c := by
  obtain ⟨p1, p2, p3⟩ := p
  rcases h.shape with e1 | ⟨g, m, cp, e1, h2, h3, h4⟩
  · simp only [mkS, Value.slice.injEq] at e1
    rw [show slen (mkS (p1, p2, p3)) = p2 from rfl, e1.2.1] at h1
    cases h1
  · simp only [mkS, Value.slice.injEq] at e1
    obtain ⟨rfl, rfl, rfl⟩ := e1
    exact ⟨g, p2, p3, rfl, h2, h3, h4⟩
theorem ones_sl {w w1 : World} {g m cp : Nat} (hc : ∀ j, j < m → w.cell? ⟨g, j, none⟩ = some wOne) (hg : g < w.heap.size) (hb : Below w.heap.size w w1) : SlS w1 (.slice (some ⟨g, 0, none⟩) m cp) (List.replicate m [49]) := by
  refine .inr ⟨g, 0, cp, by rw [List.length_replicate], fun j hj => ?_, Nat.lt_of_lt_of_le hg hb.size⟩
  rw [List.length_replicate] at hj
  rw [Nat.zero_add, hb.cell (p := ⟨g, j, none⟩) hg, hc j hj, List.getElem_replicate]
theorem cnt_le (l : List Int) (x : Int) : Rg.cntL l x ≤ l.length := by
  unfold Rg.cntL
  have := List.countP_le_length (p := (· == x)) (l := l)
  omega
theorem infoW : (Tryz.prog.info? 55).map (fun i => (i.zero, i.size, i.bytes)) = some (some (.agg #[.int .i64 0, .string ⟨#[]⟩]), 2, 24) := by kernel_rfl
set_option maxRecDepth 100000 in
set_option maxHeartbeats 8000000 in
theorem Collect_c {v : Value} (ls : List Int) (w : World) (hg : Good w) (S : SlX w v (ls.map one1)) (h1 : 1 ≤ ls.length) (h16 : ls.length ≤ 16) (hv : ∀ x ∈ ls, -999 ≤ x ∧ x ≤ 999) :
    Calls Tryz.prog 17 #[v] w fun e w' => ∃ v' ds, e = .returned (.tuple #[v', .int .i64 0]) ∧ SlX w' v' ds ∧ Rg.IsD ls ds ∧ Below w.heap.size w w' := by
  rcases S with ⟨a, cap, rfl, h⟩ | ⟨b, off, cap, rfl, hR, hb⟩
  · rw [List.map_eq_nil_iff] at h
    rw [h] at h1
    cases h1
  rw [List.length_map]
  have HK := Lib.hid (fun i (h : i < ls.length) W (hb2 : Below w.heap.size w W) => ones_cell (hR.later hb2 hb) h)
  have HV := Lib.hid hv
  have HG := Lib.hid hg
  have HCK := Lib.hid (fun W => by have := chkI 1 W (lng_sm (by decide) (by decide)); rwa [itoa_one] at this)
  have HSG := Lib.hid (fun W => by have := dsign_c 1 W (lng_sm (by decide) (by decide)); rwa [itoa_one, sgn_pos (show (0 : Int) < 1 by decide)] at this)
  have HTT := Lib.hid (fun u m W hW S (hm : m ≤ 16) => by have := wTotal_c (v := u) (List.replicate m [49]) W hW S (by rw [List.length_replicate]; omega) (fun l hl => by rw [List.eq_of_mem_replicate hl]; decide); rwa [ones_tot (by omega)] at this)
  obtain ⟨i0, hi0, hz0, hz1, hz2⟩ := info_parts infoI
  have HI0 := Lib.hid hi0
  have HZ0 := Lib.hid hz0
  have HZ1 := Lib.hid hz1
  have HZ2 := Lib.hid hz2
  have hmm := @run_makeMap Tryz.prog
  have HH1 := Lib.hid h1
  obtain ⟨n, hn⟩ : ∃ n, ls.length = n := ⟨_, rfl⟩
  rw [hn] at h16 HH1
  rw [hn]
  have HN := Lib.hid hn
  have y1 : decide ((4096 : Int) < (n : Int)) = false := decide_eq_false (by omega)
  have y2 : decide (4096 < n) = false := decide_eq_false (by omega)
  clear hR hv hg hi0 hz0 hz1 hz2 hn h1
  go_enter Tryz.func17, Tryz.ntmps17
  go_wp2_with fail
  go_loopw [20] (fun si wr => ∃ i : Nat, si = .int .i64 (i : Int) ∧ i ≤ n ∧ Below w.heap.size w wr) (fun si _ => n - (intOf si).toNat)
  case atStart => exact ⟨0, rfl, Nat.zero_le _, Below.refl _ _⟩
  case round =>
    obtain ⟨i, rfl, hi, hB⟩ := hrel
    by_cases hlt : i < n
    · have hil : i < ls.length := by rw [HN.out]; exact hlt
      obtain ⟨k0, k1⟩ := HK.out i hil _ hB
      have hx := HV.out _ (List.getElem_mem hil)
      generalize ls[i] = x at *
      have HWI := Lib.hid (fun W => within_c x (by omega) W)
      have J := BX.new wr #[.int .i64 x, .string ⟨#[49]⟩] 55
      clear hx HV HTT HN hil
      go_wp2_with fail
      ((with_reducible refine (HCK.out _).mono ?_); rintro e w1 ⟨rfl, hb1⟩)
      have HJ1 := Lib.hid (J.later hb1)
      obtain ⟨c0, c1⟩ := cell2 HJ1.out.c
      clear J hb1 k0 k1
      go_wp2_with fail
      ((with_reducible refine (HSG.out _).mono ?_); rintro e w2 ⟨rfl, hb2⟩)
      have HJ2 := Lib.hid (HJ1.out.later hb2)
      obtain ⟨d0, d1⟩ := cell2 HJ2.out.c
      clear hb2 c0 c1
      go_wp2_with fail
      ((with_reducible refine (HWI.out _).mono ?_); rintro e w' ⟨rfl, rfl⟩)
      have HB2 := Lib.hid (hB.trans (HJ2.out.w.mono hB.size))
      clear d0 d1
      go_wp2
      go_roundw
      case rel => exact ⟨i + 1, by go_num, by omega, HB2.out⟩
      case measure => simp [intOf]; omega
    · obtain rfl : i = n := by omega
      clear hi hlt HCK HSG
      have hM := MapR.made wr Tryz.prog 3 53 wOne
      have hBm : Below w.heap.size w (wr.alloc (.map #[] 0)) := hB.alloc hB.size _
      have hgs : wr.heap.size + 1 ≤ (wr.alloc (.map #[] 0)).heap.size := by simp
      obtain ⟨gm, hgm⟩ : ∃ g, wr.heap.size = g := ⟨_, rfl⟩
      have hgw := hB.size
      rw [hgm] at hM hgs hgw
      go_wp2_with fail
      (try rw [hgm])
      have HM0 := Lib.hid hM
      have HB0 := Lib.hid hBm
      have HS0 := Lib.hid hgs
      clear hM hBm hgs hgm hB
      generalize wr.alloc (.map #[] 0) = W0 at *
      go_loopw [44] (fun si wx => ∃ j : Nat, si = .int .i64 (j : Int) ∧ j ≤ i ∧ Hid (∃ D, CntD D (ls.take j) ∧ MapR wx Tryz.prog 3 (gm + 1) 53 wOne gm j D) ∧ Hid (Below w.heap.size w wx) ∧ Hid (gm + 1 ≤ wx.heap.size)) (fun si _ => i - (intOf si).toNat)
      case atStart => exact ⟨0, rfl, Nat.zero_le _, ⟨_, CntD.nil, HM0.out⟩, HB0.out, HS0.out⟩
      case round =>
        obtain ⟨j, rfl, hj, hDM, hB, hS⟩ := hrel
        by_cases hlt : j < i
        · obtain ⟨D, hD, hM⟩ := hDM.out
          have hjl : j < ls.length := by rw [HN.out]; exact hlt
          obtain ⟨k0, k1⟩ := HK.out j hjl _ hB.out
          have HTK := Lib.hid (List.take_append_getElem hjl)
          have hx := HV.out _ (List.getElem_mem hjl)
          generalize ls[j] = x at *
          have hkey : keyOf Tryz.prog 3 (.int .i64 x) = some (.int .i64 x) := Maps.keyOf_int_mk Tryz.underlying3 (WalkArith.wf_i64 (by omega))
          obtain ⟨u, HLK, hat, hrep, hul, hback⟩ := hM.at2 law3 Tryz.underlying89 zeroS (by unfold maxLen; omega) hkey
          have hgl := hM.lt
          have hbl := World.grownBy_alloc wr (.cells #[.int .i64 x, wOne] 55) none
          have HLK := Lib.hid HLK
          have HPS := Lib.hid (fun w1 gg cap hown hgrow hloc => put_step (w1 := w1) (gg := gg) (cap := cap) hback hrep hul hgl hbl (.cells #[wOne] 53) hown hgrow hloc)
          have HOW := Lib.hid (fun o => World.ownsRow.alloc (World.ownsRow.alloc hrep (.cells #[.int .i64 x, wOne] 55)) o)
          have HME := Lib.hid (show (wr.alloc (.cells #[.int .i64 x, wOne] 55)).heap[gm]? = wr.heap[gm]? from heap_alloc_old _ _ _ hgl)
          have HC1 := Lib.hid (heap_alloc_new wr (.cells #[.int .i64 x, wOne] 55))
          have HCN := Lib.hid (hD.put (x := x) (n := ((slen u + 1 : Nat) : Int)) (by have := hD.len hat; omega))
          rw [HTK.out] at HCN
          have HS1 := Lib.hid (show gm + 1 ≤ wr.heap.size ∧ wr.heap.size + 1 = (wr.alloc (.cells #[.int .i64 x, wOne] 55)).heap.size ∧ w.heap.size ≤ wr.heap.size from ⟨hS.out, by simp, hB.out.size⟩)
          have HB1 := Lib.hid hB.out
          have HUL := Lib.hid hul
          clear hD hM hDM hB hS hjl hx hkey HTT HV HM0 HB0 HS0 hat hrep hul hback hgl hbl HTK
          go_upto_region 16 with fail
          generalize wr.alloc (.cells #[.int .i64 x, wOne] 55) = W1 at *
          generalize hg9 : wr.heap.size = g9 at *
          clear k0 k1
          have HG9 := Lib.hid hg9
          clear hg9
          have l1 := HLK.out W1.drew HME.out
          have l3 : (Instr.lookup 89 (.map (some gm)) (.int .i64 x) false).run Tryz.prog (W1.alloc (.cells #[wOne] 53)).drew = .ok u (W1.alloc (.cells #[wOne] 53)).drew := HLK.out _ ((heap_alloc_old W1 _ gm (by have := HS1.out; omega)).trans HME.out)
          have l2 := HLK.out (W1.drew.alloc (.cells #[wOne] 53)) ((heap_alloc_old W1.drew _ gm (by have := HS1.out; show gm < W1.heap.size; omega)).trans HME.out)
          obtain ⟨c0, c1⟩ := cell2 HC1.out
          have c0d : W1.drew.cell? ⟨g9, 0, none⟩ = some (.int .i64 x) := c0
          have c1d : W1.drew.cell? ⟨g9, 1, none⟩ = some wOne := c1
          clear HLK HME
          go_region_held3 (fun W => W.cell? ⟨g9, 0, none⟩ = some (.int .i64 x) ∧ W.cell? ⟨g9, 1, none⟩ = some wOne) (go_keep)
            (first | (refine step_append_lies _ (by rfl) _ _ 90 (by rfl) (gm + 1) 53 i0 (.string ⟨#[]⟩) 1 16 Tryz.underlying90 HI0.out HZ0.out HZ1.out HZ2.out rfl (by decide) u (slen u) (List.replicate (slen u) wOne) (by rfl) (HOW.out _) ⟨W1.drew.heap.size, 0, none⟩ 1 1 [wOne] (by rfl) rfl (cell_one_new _ _ _) (by simp [Value.oneCell']) (by decide) (by unfold maxLen; have := HUL.out; omega) (by have := HUL.out; omega) (by have := HS1.out; simp; omega) _ rfl ?_; intro gg cap3 w1 hown' hgrow hloc hglt; obtain ⟨w2, hmu, hM2, hBB, hcc⟩ := HPS.out w1 gg cap3 hown' hgrow hloc; obtain ⟨q1, q2⟩ := hcc g9 (by have := HS1.out; have := HG9.out; omega) (by have := HS1.out; omega); obtain ⟨e0, e1⟩ := cell2 (q1.trans HC1.out); obtain ⟨f0, f1⟩ := cell2 (q2.trans HC1.out); clear hcc q1 q2 hown' hgrow hloc hglt; have HM2 := Lib.hid hM2; have HBB := Lib.hid hBB; clear hM2 hBB) | fail)
          all_goals
            have HBW := Lib.hid (HB1.out.trans (HBB.out w.heap.size (by omega) (by omega) (by have := HS1.out; have := HG9.out; omega)))
            have HSZ := Lib.hid (show gm + 1 ≤ w2.heap.size by have := HS1.out; have := HG9.out; have := (HBB.out 0 (by omega) (by omega) (by omega)).size; omega)
            clear HBB e0 e1 f0 f1 c0 c1 c0d c1d l1 l2 l3 hmu HOW HPS
            go_wp2
            go_roundw
            case rel => exact ⟨j + 1, by go_num, by omega, ⟨_, HCN.out, HM2.out⟩, HBW.out, HSZ.out⟩
            case measure => simp [intOf]; omega
        · obtain rfl : j = i := by omega
          obtain ⟨D, hD, hM⟩ := hDM.out
          rw [show ls.take j = ls by rw [← HN.out, List.take_length]] at hD
          have HD := Lib.hid hD
          obtain ⟨Wm, hWm⟩ : ∃ W, W = wr := ⟨_, rfl⟩
          subst hWm
          obtain ⟨gr, hgr⟩ : ∃ g, Wm.heap.size = g := ⟨_, rfl⟩
          have HGR := Lib.hid hgr
          clear hD hDM HM0 HB0 HS0 HK HI0 HZ0 HZ1 HZ2 hj hlt hmm
          go_wp2_with (first
            | (at_range; refine wpList_range_own _ rfl _ 89 rfl 3 90 law3 Tryz.underlying89 _ gm j D rfl hM.owns ?_; intro W3 hrg0 hg0 hs0)
            | fail)
          go_frame
          (try rw [hgr] at hrg0)
          (try rw [hgr] at hs0)
          (try rw [hgr])
          have HR0 := Lib.hid hrg0
          have HB3 := Lib.hid (hB.out.grown hg0 hB.out.size (fun q hq => by cases hq))
          have HQ3 := Lib.hid (show Below gr Wm W3 from hgr ▸ (Below.refl Wm.heap.size Wm).grown hg0 (Nat.le_refl _) (fun q hq => by cases hq))
          have HS3 := Lib.hid (Nat.le_of_eq hs0.symm)
          have HGM := Lib.hid (show gm < gr by rw [← hgr]; exact hM.lt)
          have HWG := Lib.hid (show w.heap.size ≤ gr by rw [← hgr]; exact hB.out.size)
          clear hrg0 hg0 hs0 hM hB hS hgr
          go_loopw [10] (fun so wx => ∃ (left : Lit → Bool) (cnt : Nat) (ds : List Rg.Wd), Hid (wx.ranges Tryz.prog 3 (repR Wm (gm + 1) 53 wOne) gm gr j D left cnt) ∧ Hid (OwX 55 wx (gr + 1) so ds) ∧ Hid (PartD ls left ds) ∧ Hid (Below w.heap.size w wx) ∧ Hid (Below gr Wm wx) ∧ Hid (gr + 1 ≤ wx.heap.size)) (fun _ wx => wx.rangeLeft gm gr)
          case atStart => exact ⟨_, _, [], HR0.out, OwX.nil _ _ _, PartD.start HD.out, HB3.out, HQ3.out, HS3.out⟩
          case round =>
            obtain ⟨left, cnt, ds, hrg, hO, hP, hB, hQ, hS⟩ := hrel
            clear HR0 HB3 HQ3 HS3
            have hdl := hP.out.len
            rw [HN.out] at hdl
            go_wp2_with (first
              | (at_next; refine wpList_next_ranges _ rfl _ rfl 3 law3 (repR Wm (gm + 1) 53 wOne) (Value.int .i64) mkS keyI valS gm gr j D left cnt rfl hrg.out ?_ ?_)
              | fail)
            · intro hc0 hl0
              have hne := hP.out.ne hl0 (by rw [HN.out]; exact HH1.out)
              have HDN := Lib.hid (fun ds' hp hs => hP.out.done (ds' := ds') hl0 hp hs)
              obtain ⟨g, cap, rfl⟩ : ∃ g cap, u10 = .slice (some ⟨g, 0, none⟩) ds.length cap := by
                rcases hO.out.2 with ⟨_, h⟩ | ⟨g, cap, cur, rfl, _⟩
                · exact absurd h hne
                · exact ⟨g, cap, rfl⟩
              have HSO := Lib.hid (sortW_c ds hO.out (fun a ha => by have := HV.out _ (hP.out.cnt a ha).2.1; omega) (by omega))
              have HB := Lib.hid (fun w' (h : Below (gr + 1) wr w') => hB.out.trans (h.mono (by have := HWG.out; omega)))
              clear hl0 hc0 hO hP hB hQ hS hrg HD
              generalize ds.length = dn at *
              have y3 : ((dn : Int) == 0) = false := beq_eq_false_iff_ne.2 (by omega)
              have y4 : (dn == 0) = false := beq_eq_false_iff_ne.2 hne
              go_wp2_with fail
              ((with_reducible refine HSO.out.mono ?_); rintro e w' ⟨rfl, ds', hS', hp, hs', hb'⟩)
              have HE := Lib.hid (HDN.out ds' hp hs')
              have HF := Lib.hid (HB.out w' hb')
              have HS' := Lib.hid hS'
              clear hS' hp hs' hb'
              go_wp2
              go_ret2
              exact ⟨_, ds', rfl, HS'.out, HE.out, HF.out⟩
            · intro x p1 m cp kl yd yp w1 cnt1 hkey hlk hv hat hrg1 hlt hg1 hs1 hen
              obtain ⟨x', ex, rfl, hwf⟩ := Maps.keyOf_int_inv Tryz.underlying3 hkey
              cases ex
              obtain ⟨hrep, he⟩ := repR_inv hv
              simp only [Prod.mk.injEq] at he
              obtain ⟨rfl, rfl⟩ := he
              obtain ⟨hx, hm, hm1⟩ := HD.out.got hat
              obtain ⟨g, m2, cp2, ep, hgb, hgl, hcell⟩ := shapeS hrep hm1
              simp only [Prod.mk.injEq] at ep
              obtain ⟨rfl, rfl, rfl⟩ := ep
              have hm' : (m : Int) = Rg.cntL ls x := hm
              have hm2 : 1 ≤ m := hm1
              have hcl := cnt_le ls x
              rw [HN.out] at hcl
              have HM16 := Lib.hid (show m ≤ 16 by omega)
              have HST := Lib.hid (hP.out.step hx hlk hm')
              have HQ1 := Lib.hid (hQ.out.grown hg1 (Nat.le_trans (Nat.le_succ _) hS.out) (fun q hq => by cases hq; exact Nat.le_refl _))
              have HB1 := Lib.hid (hB.out.grown hg1 hB.out.size (fun q hq => by cases hq; exact HWG.out))
              have HSL := Lib.hid (ones_sl (cp := cp) hcell hgl (by rw [HGR.out]; exact HQ1.out))
              have HLT := Lib.hid (show cnt1 < cnt ∧ wr.rangeLeft gm gr = cnt from ⟨hlt, hrg.out.left_eq⟩)
              have HR1 := Lib.hid hrg1
              have HS1 := Lib.hid (show gr + 1 ≤ w1.heap.size by rw [hs1]; exact hS.out)
              have HO1 := Lib.hid (show OwX 55 w1 (gr + 1) u10 ds from World.ownsRow.kept hO.out hg1 (by
                cases hq : u10.ownBlock with
                | none => exact .inl rfl
                | some g2 => exact .inr (fun e => by have := (World.ownsRow.lt hO.out g2 hq).1; cases e; omega)))
              obtain ⟨tm, htm⟩ : ∃ t, Lib.itoa (m : Int) = t := ⟨_, rfl⟩
              have hz := itoa_is_zero (n := (m : Int))
              rw [htm, decide_eq_false (by omega)] at hz
              have hz2 : (tm != [48]) = true := by rw [bne, hz]; rfl
              have HTM := Lib.hid htm
              have HT := Lib.hid (fun W hW S => by have := HTT.out (.slice (some ⟨g, 0, none⟩) m cp) m W hW S HM16.out; rwa [htm] at this)
              clear hkey hlk hv hat hrg1 hlt hg1 hs1 hwf hrep hx hm hm1 hgb hgl hcell hm' hm2 hcl hrg hO hP hB hQ hS htm
              unfold mkS at *
              simp only at hen
              simp only
              go_wp2_with fail
              ((with_reducible refine (HT.out _ (HG.out.later HB1.out) HSL.out).mono ?_); rintro e w2 ⟨rfl, hb2⟩)
              have HR2 := Lib.hid (ranges_same HR1.out (hb2.block gm (by have := HGM.out; have := HS1.out; omega)) (hb2.block gr HS1.out))
              have HB2 := Lib.hid (HB1.out.trans (hb2.mono HB1.out.size))
              have HQ2 := Lib.hid (HQ1.out.trans (hb2.mono (Nat.le_trans (Nat.le_succ _) HS1.out)))
              have HS2 := Lib.hid (Nat.le_trans HS1.out hb2.size)
              have HO2 := Lib.hid ((HO1.out.later hb2).later (bal w2 (.cells #[.int .i64 x, .string ⟨tm.toArray⟩] 55)))
              have HA2 := Lib.hid (bal w2 (.cells #[.int .i64 x, .string ⟨tm.toArray⟩] 55))
              clear hb2 hen
              go_wp2_with (first
                | (at_builtin; refine wpList_app_row (by rfl) _ _ 30 55 (by rfl) Tryz.underlying30 (.agg #[.int .i64 0, .string ⟨#[]⟩]) 24 (by decide) infoW rfl (gr + 1) u10 ds (by rfl) HO2.out w2.heap.size ⟨x, (m : Int)⟩ (by rfl) (new_wd w2 x tm m HTM.out.symm 55) (by omega) (Nat.le_trans HS2.out HA2.out.size) ?_; intro v' w3 hO3 hb3)
                | fail)
              have HO3 := Lib.hid hO3
              have hws : w2.heap.size ≤ (w2.alloc (.cells #[.int .i64 x, .string ⟨tm.toArray⟩] 55)).heap.size := HA2.out.size
              have HR3 := Lib.hid (ranges_same HR2.out ((hb3.block gm (by have := HGM.out; omega)).trans (HA2.out.block gm (by have := HGM.out; have := HS2.out; omega))) ((hb3.block gr (Nat.lt_succ_self _)).trans (HA2.out.block gr HS2.out)))
              have HB4 := Lib.hid ((HB2.out.trans (HA2.out.mono HB2.out.size)).trans (hb3.mono (by have := HWG.out; omega)))
              have HQ4 := Lib.hid ((HQ2.out.trans (HA2.out.mono (Nat.le_trans (Nat.le_succ _) HS2.out))).trans (hb3.mono (Nat.le_succ _)))
              have HS4 := Lib.hid (Nat.le_trans HS2.out (Nat.le_trans hws hb3.size))
              clear hO3 hb3 hws
              go_roundw
              case rel => exact ⟨_, cnt1, _, HR3.out, HO3.out, HST.out, HB4.out, HQ4.out, HS4.out⟩
              case measure => rw [HR3.out.left_eq, HLT.out.2]; exact HLT.out.1
end Go.Proofs.Wk
/- DISTRIBUTIONS OF A SERIES: playCollected; Probability. -/
namespace Go.Proofs.Wk
open Go.RowKit Mt

theorem take_ones {ls : List Int} {i : Nat} (h : i < ls.length) : (ls.take i).map one1 ++ [⟨ls[i], 1⟩] = (ls.take (i + 1)).map one1 := by
  rw [← List.take_append_getElem h, List.map_append]
  rfl
set_option maxRecDepth 100000 in
set_option maxHeartbeats 4000000 in
theorem playCollected_c {v : Value} (ls : List Int) (w : World) (hg : Good w) (S : SlX w v ls) (h1 : 1 ≤ ls.length) (h16 : ls.length ≤ 16) (hv : ∀ x ∈ ls, -999 ≤ x ∧ x ≤ 999) :
    Calls Tryz.prog 6 #[v] w fun e w' => ∃ v' ds, e = .returned (.tuple #[v', .int .i64 0]) ∧ SlX w' v' ds ∧ Rg.IsD ls ds ∧ Below w.heap.size w w' := by
  rcases S with ⟨a, cap, rfl, rfl⟩ | ⟨b, off, cap, rfl, hR, hb⟩
  · cases h1
  have HCL := Lib.hid (fun u W hW S => Collect_c (v := u) ls W hW S h1 h16 hv)
  have HR := Lib.hid hR
  have HG := Lib.hid hg
  have HTK := Lib.hid (fun i (h : i < ls.length) => take_ones h)
  have HLN := Lib.hid (fun i (h : i ≤ ls.length) => (by rw [List.length_map, List.length_take]; omega : ((ls.take i).map one1).length = i))
  have HAL := Lib.hid (show (ls.take ls.length).map one1 = ls.map one1 by rw [List.take_length])
  clear hR hg hv h1
  go_enter Tryz.func6, Tryz.ntmps6
  go_wp2_with fail
  go_loopw [4, 9] (fun so si wr => ∃ i : Nat, si = .int .i64 (i : Int) ∧ i ≤ ls.length ∧ Hid (OwX 55 wr w.heap.size so ((ls.take i).map one1)) ∧ Hid (Below w.heap.size w wr)) (fun _ si _ => ls.length - (intOf si).toNat)
  case atStart => exact ⟨0, rfl, Nat.zero_le _, OwX.nil _ _ _, Below.refl _ _⟩
  case round =>
    obtain ⟨i, rfl, hi, hO, hB⟩ := hrel
    by_cases hlt : i < ls.length
    · have k0 := (HR.out.later hB.out hb).int hlt
      have HT := Lib.hid (HTK.out i hlt)
      have HL := Lib.hid (HLN.out i hi)
      generalize ls[i] = x at *
      have HO2 := Lib.hid (hO.out.later (bal wr (.cells #[.int .i64 x, .string ⟨#[49]⟩] 55)))
      have HA2 := Lib.hid (bal wr (.cells #[.int .i64 x, .string ⟨#[49]⟩] 55))
      have HN2 := Lib.hid (show (((ls.take i).map one1).length + 1) * 24 ≤ 140737488355328 by rw [HL.out]; omega)
      clear hO HTK HLN HAL HCL
      go_wp2_with (first
        | (at_builtin; refine wpList_app_row (by rfl) _ _ 30 55 (by rfl) Tryz.underlying30 (.agg #[.int .i64 0, .string ⟨#[]⟩]) 24 (by decide) infoW rfl w.heap.size _ ((ls.take i).map one1) (by rfl) HO2.out wr.heap.size ⟨x, 1⟩ (by rfl) (new_wd wr x [49] 1 itoa_one.symm 55) HN2.out (Nat.le_trans hB.out.size HA2.out.size) ?_; intro v' w3 hO3 hb3)
        | fail)
      rw [HT.out] at hO3
      have HO3 := Lib.hid hO3
      have HB3 := Lib.hid ((hB.out.trans (HA2.out.mono hB.out.size)).trans hb3)
      clear hO3 hb3 k0
      go_roundw
      case rel => exact ⟨i + 1, by go_num, by omega, HO3.out, HB3.out⟩
      case measure => simp [intOf]; omega
    · obtain rfl : i = ls.length := by omega
      have hO1 := hO.out
      rw [HAL.out] at hO1
      have HO1 := Lib.hid hO1.sl
      clear hO hO1 HAL HTK HLN
      go_wp2_with fail
      ((with_reducible refine (HCL.out _ _ (HG.out.later hB.out) HO1.out).mono ?_); rintro e w' ⟨v', ds, rfl, hS', hD', hb'⟩)
      have HS' := Lib.hid hS'
      have HD' := Lib.hid hD'
      have HB' := Lib.hid (hB.out.trans (hb'.mono hB.out.size))
      clear hS' hD' hb'
      go_wp2
      go_ret2
      exact ⟨v', ds, rfl, HS'.out, HD'.out, HB'.out⟩
theorem DsR.of {ls : List Int} {ds : List Rg.Wd} (h : Rg.IsD ls ds) (h16 : ls.length ≤ 16) (hv : ∀ x ∈ ls, -999 ≤ x ∧ x ≤ 999) : DsR ds :=
  ⟨Nat.le_trans h.len h16, fun a ha => by have := hv _ (h.cnt a ha).2; omega, fun a ha => by have := h.pos ha; omega⟩
theorem inW_sum {ls : List Int} {ds : List Rg.Wd} (h : Rg.IsD ls ds) (lo hi : Int) : (ds.map (inW lo hi)).sum = ls.length - Rg.serB lo hi ls := by
  rw [← h.within lo hi]
  congr 1
  refine List.map_congr_left fun a _ => ?_
  unfold inW Rg.inL
  split <;> simp
theorem IsD.ne {ls : List Int} {ds : List Rg.Wd} (h : Rg.IsD ls ds) (h1 : 1 ≤ ls.length) : ds ≠ [] := by
  rintro rfl
  cases ls with
  | nil => cases h1
  | cons x l =>
    obtain ⟨a, ha, _⟩ := h.all x (by simp)
    cases ha
theorem sm_big {n : Int} (h0 : -1000 < n) (h1 : n < 1000) : n.natAbs < big := lng_big2 (lng_sm h0 h1)
/-- The share of the values within limits. -/
def shT (lo hi : Int) (ls : List Int) : Txt := rtoa (Rat.divInt (ls.length - Rg.serB lo hi ls) ls.length)
set_option maxRecDepth 100000 in
theorem share_c {v : Value} {ls : List Int} (ds : List Rg.Wd) (hD : Rg.IsD ls ds) (lo hi : Int) (g : Nat) (w : World) (hg : Good w) (S : SlX w v ds) (R : DsR ds) (h1 : 1 ≤ ls.length) (h16 : ls.length ≤ 16) (hgl : g < w.heap.size) (hl : w.cell? ⟨g, 0, none⟩ = some (.int .i64 lo)) (hh : w.cell? ⟨g, 1, none⟩ = some (.int .i64 hi)) :
    Calls Tryz.prog 19 #[v, .func (.func 20) #[] #[.pointer (some ⟨g, 0, none⟩)]] w (Ret w (ans2 (shT lo hi ls, 0))) := by
  have HP := Lib.hid (by have := sumP_c ds lo hi g w hg S R hgl hl hh; rwa [inW_sum hD] at this)
  have HW := Lib.hid (fun W (h : Below w.heap.size w W) => by have := sumW_c ds W (hg.later h) (S.later h) R; rwa [hD.total] at this)
  have hb := Rg.serB_bd lo hi ls
  have HM := Lib.hid (fun W hW => qMake_c (Lib.itoa (ls.length - Rg.serB lo hi ls)) (Lib.itoa ls.length) W hW (txt_ok (lng_sm (by omega) (by omega))) (txt_ok (lng_sm (by omega) (by omega))))
  rw [mk2_itoa (sm_big (by omega) (by omega)) (sm_big (by omega) (by omega)), show makQ (ls.length - Rg.serB lo hi ls) ls.length = (shT lo hi ls, 0) by unfold makQ; rw [if_neg (by omega)]; rfl] at HM
  have HG := Lib.hid hg
  clear hg S R hl hh hgl hb hD h1 h16
  generalize shT lo hi ls = T at *
  generalize Lib.itoa (ls.length - Rg.serB lo hi ls) = a at *
  generalize Lib.itoa ls.length = c at *
  go_enter Tryz.func19, Tryz.ntmps19
  go_wp2_with fail
  ((with_reducible refine HP.out.mono ?_); rintro e w1 ⟨rfl, hb1⟩)
  have HB1 := Lib.hid hb1
  clear hb1
  go_wp2_with fail
  ((with_reducible refine (HW.out _ HB1.out).mono ?_); rintro e w2 ⟨rfl, hb2⟩)
  have HB2 := Lib.hid (HB1.out.trans (hb2.mono HB1.out.size))
  clear hb2
  go_wp2_with fail
  ((with_reducible refine (HM.out _ (HG.out.later HB2.out)).mono ?_); rintro e w3 ⟨rfl, hb3⟩)
  have HB3 := Lib.hid (HB2.out.trans (hb3.mono HB2.out.size))
  clear hb3
  go_wp2
  go_ret2
  exact ⟨rfl, HB3.out⟩
set_option maxRecDepth 100000 in
theorem Probability_c {v : Value} {ls : List Int} (ds : List Rg.Wd) (hD : Rg.IsD ls ds) (lo hi : Int) (hlh : lo ≤ hi) (w : World) (hg : Good w) (S : SlX w v ds) (h1 : 1 ≤ ls.length) (h16 : ls.length ≤ 16) (hv : ∀ x ∈ ls, -999 ≤ x ∧ x ≤ 999) :
    Calls Tryz.prog 7 #[v, .agg #[.int .i64 lo, .int .i64 hi]] w (Ret w (ans2 (shT lo hi ls, 0))) := by
  have R := DsR.of hD h16 hv
  have hal := bal w (.cells #[.int .i64 lo, .int .i64 hi] 24)
  have HC := Lib.hid (fun W S => dCheck_c (v := v) ds W S R hD.srt (IsD.ne hD h1))
  have HS := Lib.hid (fun W (h : Below w.heap.size w W) => S.later h)
  have HH := Lib.hid (fun g W hW S => share_c (v := v) ds hD lo hi g W hW S R h1 h16)
  have HG := Lib.hid hg
  have HA := Lib.hid hal
  have HR := Lib.hid (heap_alloc_new w (.cells #[.int .i64 lo, .int .i64 hi] 24))
  have y1 : decide (hi < lo) = false := decide_eq_false (by omega)
  clear hg S R hD hv h1 h16 hal
  go_enter Tryz.func7, Tryz.ntmps7
  go_wp2_with fail
  ((with_reducible refine (HC.out _ (HS.out _ HA.out)).mono ?_); rintro e w1 ⟨rfl, hb1⟩)
  have HB1 := Lib.hid (HA.out.trans (hb1.mono HA.out.size))
  have HR1 := Lib.hid ((hb1.block w.heap.size (by simp)).trans HR.out)
  obtain ⟨c0, c1⟩ := cell2 HR1.out
  have HL1 := Lib.hid (Nat.lt_of_lt_of_le (alloc_lt w (.cells #[.int .i64 lo, .int .i64 hi] 24)) hb1.size)
  have HC0 := Lib.hid c0
  have HC1 := Lib.hid c1
  clear hb1
  go_wp2_with fail
  ((with_reducible refine (HH.out _ _ (HG.out.later HB1.out) (HS.out _ HB1.out) HL1.out HC0.out HC1.out).mono ?_); rintro e w2 ⟨rfl, hb2⟩)
  have HB2 := Lib.hid (HB1.out.trans (hb2.mono HB1.out.size))
  clear hb2
  go_wp2
  go_ret2
  exact ⟨rfl, HB2.out⟩
end Go.Proofs.Wk
