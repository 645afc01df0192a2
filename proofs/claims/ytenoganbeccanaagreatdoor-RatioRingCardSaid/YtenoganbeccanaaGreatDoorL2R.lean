/- WHETHER TEXTS ARE SHORT AND RIGHT; THE LAW RatioRoots. -/
import Derived.Test.YtenoganbeccanaaGreatDoorL2C
namespace Go.Proofs.Wk
open Go.RowKit Mt

def shortQ (a : Txt) : Bool := decide ((rnum a).length ≤ 30 ∧ (rden a).length ≤ 30)
def longQ (a : Txt) : Bool := !shortQ a
def wrongQ (a : Txt) : Bool := !shortQ a || decide (rchk a ≠ 0)
theorem any_drop {P : Txt → Bool} {ls : List Txt} {i : Nat} (h : i < ls.length) : (ls.drop i).any P = (P ls[i] || (ls.drop (i + 1)).any P) := by
  rw [List.drop_eq_getElem_cons h]; rfl
set_option maxRecDepth 100000 in
theorem fright (a : Txt) (w : World) (ha : a.length ≤ 140737488355328) : Calls Tryz.prog 62 #[.string ⟨a.toArray⟩] w (Ret w (.bool (wrongQ a))) := by
  have HS := Lib.hid (fun W => show Calls _ _ _ W (Ret W (.bool (shortQ a))) from Short_c a W ha)
  have HC := Lib.hid (fun W => rqCheck_c a W ha)
  have hB0 := Below.refl w.heap.size w
  unfold wrongQ
  clear ha
  generalize shortQ a = s at *
  generalize rchk a = x at *
  cases s
  · rw [Bool.not_false, Bool.true_or]
    go_enter Tryz.func62, Tryz.ntmps62
    go_wp2_with fail
    ((with_reducible refine (HS.out _).mono ?_); rintro e w1 ⟨rfl, hb1⟩)
    have hB1 := hB0.trans (hb1.mono hB0.size); clear hb1
    go_wp2
    go_ret
    exact ⟨rfl, hB1⟩
  · rw [Bool.not_true, Bool.false_or]
    by_cases h : x = 0
    · rw [decide_eq_false (fun e => e h)]
      subst h
      go_enter Tryz.func62, Tryz.ntmps62
      go_wp2_with fail
      ((with_reducible refine (HS.out _).mono ?_); rintro e w1 ⟨rfl, hb1⟩)
      have hB1 := hB0.trans (hb1.mono hB0.size); clear hb1
      go_wp2_with fail
      ((with_reducible refine (HC.out _).mono ?_); rintro e w2 ⟨rfl, hb2⟩)
      have hB2 := hB1.trans (hb2.mono hB1.size); clear hb2
      go_wp2
      go_ret
      exact ⟨rfl, hB2⟩
    · rw [decide_eq_true h]
      have h3 := bne_ne h
      go_enter Tryz.func62, Tryz.ntmps62
      go_wp2_with fail
      ((with_reducible refine (HS.out _).mono ?_); rintro e w1 ⟨rfl, hb1⟩)
      have hB1 := hB0.trans (hb1.mono hB0.size); clear hb1
      go_wp2_with fail
      ((with_reducible refine (HC.out _).mono ?_); rintro e w2 ⟨rfl, hb2⟩)
      have hB2 := hB1.trans (hb2.mono hB1.size); clear hb2
      go_wp2
      go_ret
      exact ⟨rfl, hB2⟩
/-- A call that returns an index, or -1. -/
def Ixright (w : World) (B : Bool) (e : Ending) (w' : World) : Prop := ∃ i : Int, e = .returned (.int .i64 i) ∧ ((B = true ∧ 0 ≤ i) ∨ (B = false ∧ i = -1)) ∧ Below w.heap.size w w'
set_option maxRecDepth 100000 in
set_option maxHeartbeats 1000000 in
theorem ixright (b off c : Nat) (ls : List Txt) (w : World) (hR : RS w b off ls) (hl : b < w.heap.size) (hls : ls.length ≤ 140737488355328) (hlen : ∀ l ∈ ls, l.length ≤ 140737488355328) :
    Calls Tryz.prog 118 #[.slice (some ⟨b, off, none⟩) ls.length c, .func (.func 62) #[] #[]] w (Ixright w (ls.any wrongQ)) := by
  have HR := Lib.hid hR; have HL := Lib.hid hlen
  obtain ⟨n, hnn⟩ : ∃ n, ls.length = n := ⟨_, rfl⟩
  rw [hnn] at hls ⊢
  have HN := Lib.hid hnn
  clear hnn hR hlen
  go_enter Tryz.func118, Tryz.ntmps118
  go_wp2_with fail
  go_loopw [8] (fun si wr => ∃ i : Nat, si = .int .i64 (i : Int) ∧ i ≤ n ∧ Hid ((ls.drop i).any wrongQ = ls.any wrongQ) ∧ Below w.heap.size w wr) (fun si _ => n - (intOf si).toNat)
  case atStart => exact ⟨0, rfl, Nat.zero_le _, rfl, Below.refl _ _⟩
  case round =>
    obtain ⟨i, rfl, hi, hE, hB⟩ := hrel
    by_cases hlt : i < n
    · have hil : i < ls.length := by rw [HN.out]; exact hlt
      have hc := (HR.out.later hB hl) i hil
      have hd := any_drop (P := wrongQ) hil
      have hll := HL.out ls[i] (List.getElem_mem hil)
      obtain ⟨l, hle⟩ : ∃ l, ls[i] = l := ⟨_, rfl⟩
      rw [hle] at hc hd hll
      have HC := Lib.hid (fright l wr hll)
      cases hP : wrongQ l with
      | false =>
        rw [hP] at HC
        have HE := Lib.hid (show (ls.drop (i + 1)).any wrongQ = ls.any wrongQ by rw [← hE.out, hd, hP, Bool.false_or])
        clear hle hd hll hP hE
        go_wp2_with fail
        ((with_reducible refine (HC.out).mono ?_); rintro e w2 ⟨rfl, hb2⟩)
        have hB2 := hB.trans (hb2.mono hB.size)
        go_wp2
        go_roundw
        case rel => exact ⟨i + 1, by go_num, by omega, HE, hB2⟩
        case measure => simp [intOf]; omega
      | true =>
        rw [hP] at HC
        have HE := Lib.hid (show ls.any wrongQ = true by rw [← hE.out, hd, hP, Bool.true_or])
        clear hle hd hll hP hE
        go_wp2_with fail
        ((with_reducible refine (HC.out).mono ?_); rintro e w2 ⟨rfl, hb2⟩)
        have hB2 := hB.trans (hb2.mono hB.size)
        go_wp2
        go_ret
        exact ⟨_, rfl, .inl ⟨HE.out, by omega⟩, hB2⟩
    · obtain rfl : i = n := by omega
      have HE := Lib.hid (show ls.any wrongQ = false by rw [← hE.out, ← HN.out, List.drop_length]; rfl)
      clear hE
      go_wp2
      go_ret
      exact ⟨_, rfl, .inr ⟨HE.out, rfl⟩, hB⟩
set_option maxRecDepth 100000 in
theorem hasright (b off c : Nat) (ls : List Txt) (n : Nat) (w : World) (hR : RS w b off ls) (hl : b < w.heap.size) (hn : ls.length = n) (hls : n ≤ 140737488355328) (hlen : ∀ l ∈ ls, l.length ≤ 140737488355328) :
    Calls Tryz.prog 61 #[.slice (some ⟨b, off, none⟩) n c, .func (.func 62) #[] #[]] w (Ret w (.bool (ls.any wrongQ))) := by
  subst hn
  have HI := Lib.hid (ixright b off c ls w hR hl hls hlen)
  have hB0 := Below.refl w.heap.size w
  clear hR hl hlen
  generalize ls.any wrongQ = B at *
  generalize ls.length = n at *
  go_enter Tryz.func61, Tryz.ntmps61
  go_wp2_with fail
  ((with_reducible refine HI.out.mono ?_); rintro e w1 ⟨i, rfl, hi, hb1⟩)
  have hB1 := hB0.trans (hb1.mono hB0.size)
  have HH := Lib.hid hi
  clear hi hb1
  rcases HH.out with ⟨rfl, h⟩ | ⟨rfl, rfl⟩
  · go_wp2
    go_ret
    exact ⟨rfl, hB1⟩
  · go_wp2
    go_ret
    exact ⟨rfl, hB1⟩
set_option maxRecDepth 100000 in
theorem right_c (b off c n : Nat) (ls : List Txt) (w : World) (hR : RS w b off ls) (hl : b < w.heap.size) (hn : ls.length = n) (hls : n ≤ 140737488355328) (hlen : ∀ l ∈ ls, l.length ≤ 140737488355328) :
    Calls Tryz.prog 12 #[.slice (some ⟨b, off, none⟩) n c] w (Ret w (.bool (!ls.any wrongQ))) := by
  have HI := Lib.hid (fun W hR hl => hasright b off c ls n W hR hl hn hls hlen)
  have HR := Lib.hid hR; have HLT := Lib.hid hl
  have hB0 := Below.refl w.heap.size w
  clear hR hl hlen hn hls
  generalize ls.any wrongQ = B at *
  go_enter Tryz.func12, Tryz.ntmps12
  go_wp2_with fail
  ((with_reducible refine (HI.out _ HR.out HLT.out).mono ?_); rintro e w1 ⟨rfl, hb1⟩)
  have hB1 := hB0.trans (hb1.mono hB0.size); clear hb1
  go_wp2
  go_ret
  exact ⟨rfl, hB1⟩
theorem right_q {a : Txt} (h : wrongQ a = false) : ∃ q : Rat, a = rtoa q ∧ szQ q 30 := by
  unfold wrongQ at h
  rw [Bool.or_eq_false_iff] at h
  obtain ⟨h1, h2⟩ := h
  have h3 : rchk a = 0 := by
    by_cases h4 : rchk a = 0
    · exact h4
    · rw [decide_eq_true h4] at h2; cases h2
  obtain ⟨q, rfl, -⟩ := rchk_zero h3
  unfold shortQ at h1
  rw [Bool.not_eq_false', decide_eq_true_eq, rnum_rtoa, rden_rtoa] at h1
  exact ⟨q, rfl, Nat.le_trans (lng_itoa_lo _) h1.1, Nat.le_trans (lng_itoa_lo _) h1.2⟩
end Go.Proofs.Wk
