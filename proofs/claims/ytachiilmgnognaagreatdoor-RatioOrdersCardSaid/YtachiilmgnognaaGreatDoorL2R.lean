/- WHETHER TEXTS ARE SHORT AND RIGHT; THE LAW RatioRoots. -/
import Derived.Test.YtachiilmgnognaaGreatDoorL2C
namespace Go.Proofs.Wk
open Go.RowKit Mt

def shortQ (a : Txt) : Bool := decide ((rnum a).length ≤ 30 ∧ (rden a).length ≤ 30)
def longQ (a : Txt) : Bool := !shortQ a
def wrongQ (a : Txt) : Bool := !shortQ a || decide (rchk a ≠ 0)
theorem any_drop {P : Txt → Bool} {ls : List Txt} {i : Nat} (h : i < ls.length) : (ls.drop i).any P = (P ls[i] || (ls.drop (i + 1)).any P) := by
  rw [List.drop_eq_getElem_cons h]; rfl
set_option maxRecDepth 100000 in
theorem fRoots (a : Txt) (w : World) (ha : a.length ≤ 140737488355328) : Calls Tryz.prog 12 #[.string ⟨a.toArray⟩] w (Ret w (.bool (longQ a))) := by
  have HS := Lib.hid (fun W => show Calls _ _ _ W (Ret W (.bool (shortQ a))) from Short_c a W ha)
  have hB0 := Below.refl w.heap.size w
  unfold longQ
  clear ha
  generalize shortQ a = s at *
  go_enter Tryz.func12, Tryz.ntmps12
  go_wp2_with fail
  ((with_reducible refine (HS.out _).mono ?_); rintro e w1 ⟨rfl, hb1⟩)
  have hB1 := hB0.trans (hb1.mono hB0.size); clear hb1
  go_wp2
  go_ret
  exact ⟨rfl, hB1⟩
/-- A call that returns an index, or -1. -/
def IxRoots (w : World) (B : Bool) (e : Ending) (w' : World) : Prop := ∃ i : Int, e = .returned (.int .i64 i) ∧ ((B = true ∧ 0 ≤ i) ∨ (B = false ∧ i = -1)) ∧ Below w.heap.size w w'
set_option maxRecDepth 100000 in
set_option maxHeartbeats 1000000 in
theorem ixRoots (b off c : Nat) (ls : List Txt) (w : World) (hR : RS w b off ls) (hl : b < w.heap.size) (hls : ls.length ≤ 140737488355328) (hlen : ∀ l ∈ ls, l.length ≤ 140737488355328) :
    Calls Tryz.prog 61 #[.slice (some ⟨b, off, none⟩) ls.length c, .func (.func 12) #[] #[]] w (IxRoots w (ls.any longQ)) := by
  have HR := Lib.hid hR; have HL := Lib.hid hlen
  obtain ⟨n, hnn⟩ : ∃ n, ls.length = n := ⟨_, rfl⟩
  rw [hnn] at hls ⊢
  have HN := Lib.hid hnn
  clear hnn hR hlen
  go_enter Tryz.func61, Tryz.ntmps61
  go_wp2_with fail
  go_loopw [8] (fun si wr => ∃ i : Nat, si = .int .i64 (i : Int) ∧ i ≤ n ∧ Hid ((ls.drop i).any longQ = ls.any longQ) ∧ Below w.heap.size w wr) (fun si _ => n - (intOf si).toNat)
  case atStart => exact ⟨0, rfl, Nat.zero_le _, rfl, Below.refl _ _⟩
  case round =>
    obtain ⟨i, rfl, hi, hE, hB⟩ := hrel
    by_cases hlt : i < n
    · have hil : i < ls.length := by rw [HN.out]; exact hlt
      have hc := (HR.out.later hB hl) i hil
      have hd := any_drop (P := longQ) hil
      have hll := HL.out ls[i] (List.getElem_mem hil)
      obtain ⟨l, hle⟩ : ∃ l, ls[i] = l := ⟨_, rfl⟩
      rw [hle] at hc hd hll
      have HC := Lib.hid (fRoots l wr hll)
      cases hP : longQ l with
      | false =>
        rw [hP] at HC
        have HE := Lib.hid (show (ls.drop (i + 1)).any longQ = ls.any longQ by rw [← hE.out, hd, hP, Bool.false_or])
        clear hle hd hll hP hE
        go_wp2_with fail
        ((with_reducible refine (HC.out).mono ?_); rintro e w2 ⟨rfl, hb2⟩)
        have hB2 := hB.trans (hb2.mono hB.size)
        go_wp2
        go_roundw
        case rel => exact ⟨i + 1, by go_num, by omega, HE, hB2⟩
        case measure => simp [intOf]; omega
      | true =>
        rw [hP] at HC
        have HE := Lib.hid (show ls.any longQ = true by rw [← hE.out, hd, hP, Bool.true_or])
        clear hle hd hll hP hE
        go_wp2_with fail
        ((with_reducible refine (HC.out).mono ?_); rintro e w2 ⟨rfl, hb2⟩)
        have hB2 := hB.trans (hb2.mono hB.size)
        go_wp2
        go_ret
        exact ⟨_, rfl, .inl ⟨HE.out, by omega⟩, hB2⟩
    · obtain rfl : i = n := by omega
      have HE := Lib.hid (show ls.any longQ = false by rw [← hE.out, ← HN.out, List.drop_length]; rfl)
      clear hE
      go_wp2
      go_ret
      exact ⟨_, rfl, .inr ⟨HE.out, rfl⟩, hB⟩
set_option maxRecDepth 100000 in
theorem hasRoots (b off c : Nat) (ls : List Txt) (n : Nat) (w : World) (hR : RS w b off ls) (hl : b < w.heap.size) (hn : ls.length = n) (hls : n ≤ 140737488355328) (hlen : ∀ l ∈ ls, l.length ≤ 140737488355328) :
    Calls Tryz.prog 11 #[.slice (some ⟨b, off, none⟩) n c, .func (.func 12) #[] #[]] w (Ret w (.bool (ls.any longQ))) := by
  subst hn
  have HI := Lib.hid (ixRoots b off c ls w hR hl hls hlen)
  have hB0 := Below.refl w.heap.size w
  clear hR hl hlen
  generalize ls.any longQ = B at *
  generalize ls.length = n at *
  go_enter Tryz.func11, Tryz.ntmps11
  go_wp2_with fail
  ((with_reducible refine HI.out.mono ?_); rintro e w1 ⟨i, rfl, hi, hb1⟩)
  have hB1 := hB0.trans (hb1.mono hB0.size)
  have HH := Lib.hid hi
  clear hi hb1
  rcases HH.out with ⟨rfl, h⟩ | ⟨rfl, rfl⟩
  · go_wp2
    go_ret
    exact ⟨rfl, hB1⟩
  · go_wp2
    go_ret
    exact ⟨rfl, hB1⟩
set_option maxRecDepth 100000 in
theorem fright (a : Txt) (w : World) (ha : a.length ≤ 140737488355328) : Calls Tryz.prog 106 #[.string ⟨a.toArray⟩] w (Ret w (.bool (wrongQ a))) := by
  have HS := Lib.hid (fun W => show Calls _ _ _ W (Ret W (.bool (shortQ a))) from Short_c a W ha)
  have HC := Lib.hid (fun W => rqCheck_c a W ha)
  have hB0 := Below.refl w.heap.size w
  unfold wrongQ
  clear ha
  generalize shortQ a = s at *
  generalize rchk a = x at *
  cases s
  · rw [Bool.not_false, Bool.true_or]
    go_enter Tryz.func106, Tryz.ntmps106
    go_wp2_with fail
    ((with_reducible refine (HS.out _).mono ?_); rintro e w1 ⟨rfl, hb1⟩)
    have hB1 := hB0.trans (hb1.mono hB0.size); clear hb1
    go_wp2
    go_ret
    exact ⟨rfl, hB1⟩
  · rw [Bool.not_true, Bool.false_or]
    by_cases h : x = 0
    · rw [decide_eq_false (fun e => e h)]
      subst h
      go_enter Tryz.func106, Tryz.ntmps106
      go_wp2_with fail
      ((with_reducible refine (HS.out _).mono ?_); rintro e w1 ⟨rfl, hb1⟩)
      have hB1 := hB0.trans (hb1.mono hB0.size); clear hb1
      go_wp2_with fail
      ((with_reducible refine (HC.out _).mono ?_); rintro e w2 ⟨rfl, hb2⟩)
      have hB2 := hB1.trans (hb2.mono hB1.size); clear hb2
      go_wp2
      go_ret
      exact ⟨rfl, hB2⟩
    · rw [decide_eq_true h]
      have h3 := bne_ne h
      go_enter Tryz.func106, Tryz.ntmps106
      go_wp2_with fail
      ((with_reducible refine (HS.out _).mono ?_); rintro e w1 ⟨rfl, hb1⟩)
      have hB1 := hB0.trans (hb1.mono hB0.size); clear hb1
      go_wp2_with fail
      ((with_reducible refine (HC.out _).mono ?_); rintro e w2 ⟨rfl, hb2⟩)
      have hB2 := hB1.trans (hb2.mono hB1.size); clear hb2
      go_wp2
      go_ret
      exact ⟨rfl, hB2⟩
/-- A call that returns an index, or -1. -/
def Ixright (w : World) (B : Bool) (e : Ending) (w' : World) : Prop := ∃ i : Int, e = .returned (.int .i64 i) ∧ ((B = true ∧ 0 ≤ i) ∨ (B = false ∧ i = -1)) ∧ Below w.heap.size w w'
set_option maxRecDepth 100000 in
set_option maxHeartbeats 1000000 in
theorem ixright (b off c : Nat) (ls : List Txt) (w : World) (hR : RS w b off ls) (hl : b < w.heap.size) (hls : ls.length ≤ 140737488355328) (hlen : ∀ l ∈ ls, l.length ≤ 140737488355328) :
    Calls Tryz.prog 61 #[.slice (some ⟨b, off, none⟩) ls.length c, .func (.func 106) #[] #[]] w (Ixright w (ls.any wrongQ)) := by
  have HR := Lib.hid hR; have HL := Lib.hid hlen
  obtain ⟨n, hnn⟩ : ∃ n, ls.length = n := ⟨_, rfl⟩
  rw [hnn] at hls ⊢
  have HN := Lib.hid hnn
  clear hnn hR hlen
  go_enter Tryz.func61, Tryz.ntmps61
  go_wp2_with fail
  go_loopw [8] (fun si wr => ∃ i : Nat, si = .int .i64 (i : Int) ∧ i ≤ n ∧ Hid ((ls.drop i).any wrongQ = ls.any wrongQ) ∧ Below w.heap.size w wr) (fun si _ => n - (intOf si).toNat)
  case atStart => exact ⟨0, rfl, Nat.zero_le _, rfl, Below.refl _ _⟩
  case round =>
    obtain ⟨i, rfl, hi, hE, hB⟩ := hrel
    by_cases hlt : i < n
    · have hil : i < ls.length := by rw [HN.out]; exact hlt
      have hc := (HR.out.later hB hl) i hil
      have hd := any_drop (P := wrongQ) hil
      have hll := HL.out ls[i] (List.getElem_mem hil)
      obtain ⟨l, hle⟩ : ∃ l, ls[i] = l := ⟨_, rfl⟩
      rw [hle] at hc hd hll
      have HC := Lib.hid (fright l wr hll)
      cases hP : wrongQ l with
      | false =>
        rw [hP] at HC
        have HE := Lib.hid (show (ls.drop (i + 1)).any wrongQ = ls.any wrongQ by rw [← hE.out, hd, hP, Bool.false_or])
        clear hle hd hll hP hE
        go_wp2_with fail
        ((with_reducible refine (HC.out).mono ?_); rintro e w2 ⟨rfl, hb2⟩)
        have hB2 := hB.trans (hb2.mono hB.size)
        go_wp2
        go_roundw
        case rel => exact ⟨i + 1, by go_num, by omega, HE, hB2⟩
        case measure => simp [intOf]; omega
      | true =>
        rw [hP] at HC
        have HE := Lib.hid (show ls.any wrongQ = true by rw [← hE.out, hd, hP, Bool.true_or])
        clear hle hd hll hP hE
        go_wp2_with fail
        ((with_reducible refine (HC.out).mono ?_); rintro e w2 ⟨rfl, hb2⟩)
        have hB2 := hB.trans (hb2.mono hB.size)
        go_wp2
        go_ret
        exact ⟨_, rfl, .inl ⟨HE.out, by omega⟩, hB2⟩
    · obtain rfl : i = n := by omega
      have HE := Lib.hid (show ls.any wrongQ = false by rw [← hE.out, ← HN.out, List.drop_length]; rfl)
      clear hE
      go_wp2
      go_ret
      exact ⟨_, rfl, .inr ⟨HE.out, rfl⟩, hB⟩
set_option maxRecDepth 100000 in
theorem hasright (b off c : Nat) (ls : List Txt) (n : Nat) (w : World) (hR : RS w b off ls) (hl : b < w.heap.size) (hn : ls.length = n) (hls : n ≤ 140737488355328) (hlen : ∀ l ∈ ls, l.length ≤ 140737488355328) :
    Calls Tryz.prog 11 #[.slice (some ⟨b, off, none⟩) n c, .func (.func 106) #[] #[]] w (Ret w (.bool (ls.any wrongQ))) := by
  subst hn
  have HI := Lib.hid (ixright b off c ls w hR hl hls hlen)
  have hB0 := Below.refl w.heap.size w
  clear hR hl hlen
  generalize ls.any wrongQ = B at *
  generalize ls.length = n at *
  go_enter Tryz.func11, Tryz.ntmps11
  go_wp2_with fail
  ((with_reducible refine HI.out.mono ?_); rintro e w1 ⟨i, rfl, hi, hb1⟩)
  have hB1 := hB0.trans (hb1.mono hB0.size)
  have HH := Lib.hid hi
  clear hi hb1
  rcases HH.out with ⟨rfl, h⟩ | ⟨rfl, rfl⟩
  · go_wp2
    go_ret
    exact ⟨rfl, hB1⟩
  · go_wp2
    go_ret
    exact ⟨rfl, hB1⟩
set_option maxRecDepth 100000 in
theorem right_c (b off c n : Nat) (ls : List Txt) (w : World) (hR : RS w b off ls) (hl : b < w.heap.size) (hn : ls.length = n) (hls : n ≤ 140737488355328) (hlen : ∀ l ∈ ls, l.length ≤ 140737488355328) :
    Calls Tryz.prog 50 #[.slice (some ⟨b, off, none⟩) n c] w (Ret w (.bool (!ls.any wrongQ))) := by
  have HI := Lib.hid (fun W hR hl => hasright b off c ls n W hR hl hn hls hlen)
  have HR := Lib.hid hR; have HLT := Lib.hid hl
  have hB0 := Below.refl w.heap.size w
  clear hR hl hlen hn hls
  generalize ls.any wrongQ = B at *
  go_enter Tryz.func50, Tryz.ntmps50
  go_wp2_with fail
  ((with_reducible refine (HI.out _ HR.out HLT.out).mono ?_); rintro e w1 ⟨rfl, hb1⟩)
  have hB1 := hB0.trans (hb1.mono hB0.size); clear hb1
  go_wp2
  go_ret
  exact ⟨rfl, hB1⟩
theorem right_q {a : Txt} (h : wrongQ a = false) : ∃ q : Rat, a = rtoa q ∧ szQ q 30 := by
  unfold wrongQ at h
  rw [Bool.or_eq_false_iff] at h
  obtain ⟨h1, h2⟩ := h
  have h3 : rchk a = 0 := by
    by_cases h4 : rchk a = 0
    · exact h4
    · rw [decide_eq_true h4] at h2; cases h2
  obtain ⟨q, rfl, -⟩ := rchk_zero h3
  unfold shortQ at h1
  rw [Bool.not_eq_false', decide_eq_true_eq, rnum_rtoa, rden_rtoa] at h1
  exact ⟨q, rfl, Nat.le_trans (lng_itoa_lo _) h1.1, Nat.le_trans (lng_itoa_lo _) h1.2⟩
theorem short_all {ls : List Txt} (h : ls.any longQ = false) (h0 : firstR ls = 0) : ∃ qs : List Rat, ls = qs.map rtoa ∧ ∀ q ∈ qs, szQ q 30 := by
  obtain ⟨qs, rfl, -⟩ := firstR_zero h0
  refine ⟨qs, rfl, fun q hq => ?_⟩
  rw [List.any_eq_false] at h
  have h1 := h (rtoa q) (List.mem_map.2 ⟨q, hq, rfl⟩)
  unfold longQ shortQ at h1
  rw [Bool.not_eq_true, Bool.not_eq_false', decide_eq_true_eq, rnum_rtoa, rden_rtoa] at h1
  exact ⟨Nat.le_trans (lng_itoa_lo _) h1.1, Nat.le_trans (lng_itoa_lo _) h1.2⟩
/-- Both functions of a root, at short texts, at one answer. -/
theorem root3 (a b c : Txt) (hs : [a, b, c].any longQ = false) (hl : ∀ l ∈ [a, b, c], l.length ≤ 140737488355328) : ∃ x e : Int, (-1 ≤ x ∧ x ≤ 1) ∧ (0 ≤ e ∧ e ≤ 11) ∧
    (∀ W, Good W → Calls Tryz.prog 15 #[.string ⟨a.toArray⟩, .string ⟨b.toArray⟩, .string ⟨c.toArray⟩] W (Ret W (int2 (x, e)))) ∧
    (∀ W, Calls Tryz.prog 16 #[.string ⟨a.toArray⟩, .string ⟨b.toArray⟩, .string ⟨c.toArray⟩] W (Ret W (int2 (x, e)))) := by
  by_cases h : firstR [a, b, c] = 0
  · obtain ⟨qs, e, hq⟩ := short_all hs h
    match qs, e with
    | [p, q, r], e =>
      simp only [List.map_cons, List.map_nil, List.cons.injEq, and_true] at e
      obtain ⟨rfl, rfl, rfl⟩ := e
      have h1 := fun W hW => qSignRoot_ok p q r W hW (hq p (by simp)) (hq q (by simp)) (hq r (by simp))
      have h2 := fun W => rSignRoot_ok p q r W (hq p (by simp)) (hq q (by simp)) (hq r (by simp))
      by_cases h3 : r < 0
      · rw [if_pos h3] at h1 h2
        exact ⟨0, 2, by omega, by omega, h1, h2⟩
      · rw [if_neg h3] at h1 h2
        exact ⟨_, 0, rootQ_bd p q r, by omega, h1, h2⟩
  · exact ⟨0, _, by omega, firstR_range _, fun W hW => qSignRoot_err a b c W hW hl h, fun W => rSignRoot_err a b c W hl h⟩
theorem root5 (a b c d e : Txt) (hs : [a, b, c, d, e].any longQ = false) (hl : ∀ l ∈ [a, b, c, d, e], l.length ≤ 140737488355328) : ∃ x f : Int, (-1 ≤ x ∧ x ≤ 1) ∧ (0 ≤ f ∧ f ≤ 11) ∧
    (∀ W, Good W → Calls Tryz.prog 17 #[.string ⟨a.toArray⟩, .string ⟨b.toArray⟩, .string ⟨c.toArray⟩, .string ⟨d.toArray⟩, .string ⟨e.toArray⟩] W (Ret W (int2 (x, f)))) ∧
    (∀ W, Calls Tryz.prog 18 #[.string ⟨a.toArray⟩, .string ⟨b.toArray⟩, .string ⟨c.toArray⟩, .string ⟨d.toArray⟩, .string ⟨e.toArray⟩] W (Ret W (int2 (x, f)))) := by
  by_cases h : firstR [a, b, c, d, e] = 0
  · obtain ⟨qs, e, hq⟩ := short_all hs h
    match qs, e with
    | [p, q, r, u, v], e =>
      simp only [List.map_cons, List.map_nil, List.cons.injEq, and_true] at e
      obtain ⟨rfl, rfl, rfl, rfl, rfl⟩ := e
      have h1 := fun W hW => qSignRoots_ok p q r u v W hW (hq p (by simp)) (hq q (by simp)) (hq r (by simp)) (hq u (by simp)) (hq v (by simp))
      have h2 := fun W => rSignRoots_ok p q r u v W (hq p (by simp)) (hq q (by simp)) (hq r (by simp)) (hq u (by simp)) (hq v (by simp))
      by_cases h3 : r < 0 ∨ v < 0
      · rw [if_pos h3] at h1 h2
        exact ⟨0, 2, by omega, by omega, h1, h2⟩
      · rw [if_neg h3] at h1 h2
        exact ⟨_, 0, rootsQ_bd p q r u v, by omega, h1, h2⟩
  · exact ⟨0, _, by omega, firstR_range _, fun W hW => qSignRoots_err a b c d e W hW hl h, fun W => rSignRoots_err a b c d e W hl h⟩
theorem any3 {a b c d e : Txt} {P : Txt → Bool} (h : [a, b, c, d, e].any P = false) : [a, b, c].any P = false := by
  simp only [List.any_cons, List.any_nil, Bool.or_false, Bool.or_eq_false_iff] at h ⊢
  exact ⟨h.1, h.2.1, h.2.2.1⟩
set_option maxRecDepth 100000 in
set_option maxHeartbeats 4000000 in
theorem roots_c (a b c d e : Txt) (w : World) (hg : Good w) (hl : ∀ l ∈ [a, b, c, d, e], l.length ≤ 140737488355328) :
    Calls Tryz.prog 3 #[.agg #[.string ⟨a.toArray⟩, .string ⟨b.toArray⟩, .string ⟨c.toArray⟩, .string ⟨d.toArray⟩, .string ⟨e.toArray⟩]] w (Ret w (.bool true)) := by
  have HG := Lib.hid hg
  have HI := Lib.hid (fun W hR hl2 => hasRoots w.heap.size 0 5 [a, b, c, d, e] 5 W hR hl2 rfl (by omega) hl)
  have HR := Lib.hid (show RS (w.alloc (.cells #[.string ⟨a.toArray⟩, .string ⟨b.toArray⟩, .string ⟨c.toArray⟩, .string ⟨d.toArray⟩, .string ⟨e.toArray⟩] 23)) w.heap.size 0 [a, b, c, d, e] from RS.lit w [a, b, c, d, e] _)
  have HB := Lib.hid ((Below.refl w.heap.size w).alloc (Nat.le_refl _) (.cells #[.string ⟨a.toArray⟩, .string ⟨b.toArray⟩, .string ⟨c.toArray⟩, .string ⟨d.toArray⟩, .string ⟨e.toArray⟩] 23))
  have HLT := Lib.hid (alloc_lt w (.cells #[.string ⟨a.toArray⟩, .string ⟨b.toArray⟩, .string ⟨c.toArray⟩, .string ⟨d.toArray⟩, .string ⟨e.toArray⟩] 23))
  cases hP : [a, b, c, d, e].any longQ with
  | true =>
    rw [hP] at HI
    clear hP hl hg
    go_enter Tryz.func3, Tryz.ntmps3
    go_wp2_with fail
    ((with_reducible refine (HI.out _ HR.out HLT.out).mono ?_); rintro e w1 ⟨rfl, hb1⟩)
    have hB1 := HB.out.trans (hb1.mono (Nat.le_of_lt HLT.out))
    go_wp2_with fail
    ((with_reducible refine (awake2_c _ (HG.out.later hB1)).mono ?_); rintro e w2 ⟨rfl, hb2⟩)
    have hB2 := hB1.trans (hb2.mono hB1.size); clear hb2
    go_wp2
    go_ret
    exact ⟨rfl, hB2⟩
  | false =>
    rw [hP] at HI
    obtain ⟨x3, e3, bx3, be3, C1, C2⟩ := root3 a b c (any3 hP) (fun l h => hl l (by simp only [List.mem_cons, List.not_mem_nil, or_false] at h ⊢; rcases h with h | h | h <;> simp [h]))
    obtain ⟨x5, e5, bx5, be5, C3, C4⟩ := root5 a b c d e hP hl
    have H1 := Lib.hid C1; have H2 := Lib.hid C2; have H3 := Lib.hid C3; have H4 := Lib.hid C4
    obtain ⟨b1, b2⟩ := bx3; obtain ⟨b3, b4⟩ := be3; obtain ⟨b5, b6⟩ := bx5; obtain ⟨b7, b8⟩ := be5
    clear hP hl C1 C2 C3 C4 hg
    go_enter Tryz.func3, Tryz.ntmps3
    go_wp2_with fail
    ((with_reducible refine (HI.out _ HR.out HLT.out).mono ?_); rintro e w1 ⟨rfl, hb1⟩)
    have hB1 := HB.out.trans (hb1.mono (Nat.le_of_lt HLT.out))
    have hg1 : w.heap.size < w1.heap.size := Nat.lt_of_lt_of_le HLT.out hb1.size
    have hR1 := HR.out.later hb1 HLT.out
    clear hb1
    obtain ⟨c0, c1, c2, c3, c4⟩ := hR1.five
    go_wp2_with fail
    ((with_reducible refine (H1.out _ (HG.out.later hB1)).mono ?_); rintro e w2 ⟨rfl, hb2⟩)
    have hR2 := hR1.later hb2 hg1
    have hg2 := Nat.lt_of_lt_of_le hg1 hb2.size
    have hB2 := hB1.trans (hb2.mono hB1.size)
    clear c0 c1 c2 c3 c4 hb2
    obtain ⟨c0, c1, c2, c3, c4⟩ := hR2.five
    go_wp2_with fail
    ((with_reducible refine (H2.out _).mono ?_); rintro e w3 ⟨rfl, hb3⟩)
    have hR3 := hR2.later hb3 hg2
    have hg3 := Nat.lt_of_lt_of_le hg2 hb3.size
    have hB3 := hB2.trans (hb3.mono hB2.size)
    clear c0 c1 c2 c3 c4 hb3
    obtain ⟨c0, c1, c2, c3, c4⟩ := hR3.five
    go_wp2_with fail
    ((with_reducible refine (H3.out _ (HG.out.later hB3)).mono ?_); rintro e w4 ⟨rfl, hb4⟩)
    have hR4 := hR3.later hb4 hg3
    have hg4 := Nat.lt_of_lt_of_le hg3 hb4.size
    have hB4 := hB3.trans (hb4.mono hB3.size)
    clear c0 c1 c2 c3 c4 hb4
    obtain ⟨c0, c1, c2, c3, c4⟩ := hR4.five
    go_wp2_with fail
    ((with_reducible refine (H4.out _).mono ?_); rintro e w5 ⟨rfl, hb5⟩)
    have hR5 := hR4.later hb5 hg4
    have hg5 := Nat.lt_of_lt_of_le hg4 hb5.size
    have hB5 := hB4.trans (hb5.mono hB4.size)
    clear c0 c1 c2 c3 c4 hb5
    go_wp2_with fail
    ((with_reducible refine (awake2_c _ (HG.out.later hB5)).mono ?_); rintro e w6 ⟨rfl, hb6⟩)
    have hB6 := hB5.trans (hb6.mono hB5.size); clear hb6
    go_wp2
    go_ret
    exact ⟨rfl, hB6⟩
end Go.Proofs.Wk
