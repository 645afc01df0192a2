/- THE PROGRAM's MAGNITUDES: a text that is not too long; how often one may be taken off another one. -/
import Derived.Test.YtjljappilpkelaaGreatDoorWhH
import Derived.Test.YtjljappilpkelaaGreatDoorWhE
namespace Go.Proofs.Wk
open Go.RowKit Mt

/-- The integer that a sign and a magnitude stand for. -/
def sg (s : Bool) (X : Nat) : Int := if s then -(X : Int) else X
theorem sg_abs (s : Bool) (X : Nat) : (sg s X).natAbs = X := by cases s <;> simp [sg]
theorem itoa_sg {s : Bool} {X : Nat} (h : X ≠ 0) : Lib.itoa (sg s X) = (if s then [45] else []) ++ Lib.decDigits X := by
  cases s
  · simp [sg, itoa_nat]
  · have h1 : (-(X : Int)) < 0 := by omega
    have h2 : (-(X : Int)).natAbs = X := by omega
    show Lib.itoa (-(X : Int)) = _
    unfold Lib.itoa
    rw [if_pos h1, h2]; rfl
theorem itoa_sg0 (s : Bool) : Lib.itoa (sg s 0) = [48] := by
  rw [show sg s 0 = ((0 : Nat) : Int) by cases s <;> rfl, itoa_nat, dec_zero]

theorem text_c (b : Nat) (s : Bool) (X : Nat) (w : World) (h : CW w b s X) (hg : Good w) :
    Calls Tryz.prog 51 #[.pointer (some ⟨b, 0, none⟩)] w (Ret w (.string ⟨(Lib.itoa (sg s X)).toArray⟩)) := by
  by_cases h0 : X = 0
  · subst h0
    refine (text_zero b s w h).mono ?_
    rintro e w' ⟨rfl, rfl⟩
    refine ⟨?_, Below.refl _ _⟩
    rw [itoa_sg0]
  · rw [itoa_sg h0]
    exact text_pos b s X w h h0 hg
theorem itoa_len_sg {s : Bool} {X : Nat} (h : X < wmax) : (Lib.itoa (sg s X)).length ≤ 2089 := by
  have h1 := (wlen_le 232 X).1 (wmax_le.1 h)
  have h2 := dlen_words X 232 (by omega) h1
  by_cases h0 : X = 0
  · subst h0; rw [itoa_sg0]; decide
  · rw [itoa_sg h0]; cases s <;> simp <;> omega

theorem kept_chk (n : Int) : kept n = if chk (Lib.itoa n) = 0 then (Lib.itoa n, 0) else ([], chk (Lib.itoa n)) := by
  unfold kept
  rw [chk_itoa]
  by_cases hlt : n.natAbs < big
  · simp only [if_pos hlt, if_true]
  · simp only [if_neg hlt]; rw [if_neg (by decide)]
theorem chk_itoa_or (n : Int) : chk (Lib.itoa n) = 0 ∨ chk (Lib.itoa n) = 11 := by
  rw [chk_itoa]
  by_cases hlt : n.natAbs < big
  · exact .inl (if_pos hlt)
  · exact .inr (if_neg hlt)

set_option maxRecDepth 100000 in
set_option maxHeartbeats 1000000 in
theorem limited_w0 (b : Nat) (l : Txt) (w : World) (ht : Calls Tryz.prog 51 #[.pointer (some ⟨b, 0, none⟩)] w (Ret w (.string ⟨l.toArray⟩))) (hl : l.length ≤ 2089) (c : Int) (hc : chk l = c) (hcc : c = 0) :
    Calls Tryz.prog 44 #[.pointer (some ⟨b, 0, none⟩)] w (Ret w (ans2 (l, 0))) := by
  have HC := Lib.hid hc; have HT := Lib.hid ht
  clear hc ht
  subst hcc
  go_enter Tryz.func44, Tryz.ntmps44
  go_wp2_with fail
  refine HT.out.mono ?_
  rintro e w1 ⟨rfl, hb1⟩
  go_wp2_with fail
  refine (wCheck_c l w1 (by omega)).mono ?_
  rintro e w2 ⟨rfl, hb2⟩
  have hB := hb1.trans (hb2.mono hb1.size)
  rw [HC.out]
  go_wp2
  go_ret2
  exact ⟨rfl, hB⟩
set_option maxRecDepth 100000 in
set_option maxHeartbeats 1000000 in
theorem limited_w1 (b : Nat) (l : Txt) (w : World) (ht : Calls Tryz.prog 51 #[.pointer (some ⟨b, 0, none⟩)] w (Ret w (.string ⟨l.toArray⟩))) (hl : l.length ≤ 2089) (c : Int) (hc : chk l = c) (hcc : c = 11) :
    Calls Tryz.prog 44 #[.pointer (some ⟨b, 0, none⟩)] w (Ret w (ans2 ([], 11))) := by
  have HC := Lib.hid hc; have HT := Lib.hid ht
  clear hc ht
  subst hcc
  go_enter Tryz.func44, Tryz.ntmps44
  go_wp2_with fail
  refine HT.out.mono ?_
  rintro e w1 ⟨rfl, hb1⟩
  go_wp2_with fail
  refine (wCheck_c l w1 (by omega)).mono ?_
  rintro e w2 ⟨rfl, hb2⟩
  have hB := hb1.trans (hb2.mono hb1.size)
  rw [HC.out]
  go_wp2
  go_ret2
  exact ⟨rfl, hB⟩
theorem limited_c (b : Nat) (s : Bool) (X : Nat) (w : World) (h : CW w b s X) (hg : Good w) :
    Calls Tryz.prog 44 #[.pointer (some ⟨b, 0, none⟩)] w (Ret w (ans2 (kept (sg s X)))) := by
  have hl := itoa_len_sg (s := s) h.1
  have ht := text_c b s X w h hg
  rw [kept_chk]
  rcases chk_itoa_or (sg s X) with h0 | h0
  · rw [h0, if_pos rfl]; exact limited_w0 b _ w ht hl 0 h0 rfl
  · rw [h0, if_neg (by decide)]; exact limited_w1 b _ w ht hl 11 h0 rfl

/-! ### how often -/
set_option maxRecDepth 100000 in
set_option maxHeartbeats 4000000 in
theorem top_c (b : Nat) (s : Bool) (X i : Nat) (w : World) (h : CW w b s X) (hi : i ≤ 1000) :
    Calls Tryz.prog 97 #[.pointer (some ⟨b, 0, none⟩), .int .i64 (i : Int)] w (Pur w (.int .i64 (wat X i))) := by
  have hc1 := h.2.c1
  have hm := h.1
  have hwl := wmax_le.1 hm
  by_cases hlt : i < wlen X
  · have hiw : i < (wds X).length := by rw [wds_length]; omega
    have hcw := h.2.cw hiw
    rw [wat_get hiw] at hcw
    have hi3 : (i : Int) < 232 := by omega
    generalize wat X i = y at *
    generalize wlen X = n at *
    clear h hm
    go_enter Tryz.func97, Tryz.ntmps97
    go_wp2
    go_ret
    exact ⟨rfl, rfl⟩
  · rw [wat_zero hm (by omega)]
    generalize wlen X = n at *
    clear h hm
    go_enter Tryz.func97, Tryz.ntmps97
    go_wp2
    go_ret
    exact ⟨rfl, rfl⟩

theorem quiet_pur {f : FuncId} {args : Array Value} {w : World} {n : Nat} {v : Value} (h : Calls Tryz.prog f args (w.drewN n) (Pur (w.drewN n) v)) :
    Calls Tryz.prog f args (w.drewN n) fun e w'' => e = .returned v ∧ ∃ m, w'' = w.drewN m := Calls.quiet_of_same (h.mono fun _ _ ⟨a, b⟩ => ⟨a, b.symm⟩)
theorem est_law {X Y n : Nat} (hX : X < wmax) (hY : Y < wmax) (hn : wlen Y = n + 1) {b k : Int} (hb : b = wat Y n + (if n = 0 then 0 else 1)) (hk0 : 0 ≤ k)
    (hk : k * b ≤ wat X (n + 1) * 1000000000 + wat X n) : k * Y ≤ X := by
  have hYl := wmax_le.1 hY
  have e1 := wsplit X n hX (by omega)
  have e2 := wsplit Y n hY (by omega)
  have hs0 : wsuf Y (n + 1) = 0 := wsuf_zero hY (by omega)
  have e3 := wsuf_succ (X := Y) (k := n) (by omega)
  have e4 := wsuf_succ (X := X) (k := n) (by omega)
  have b1 := wpre_bd X n (by omega)
  have b2 := wpre_bd Y n (by omega)
  have e5 : wat X (n + 1) ≤ wsuf X (n + 1) := by
    by_cases h : n + 1 < 232
    · have := wsuf_succ (X := X) (k := n + 1) h
      have : 0 ≤ wsuf X (n + 1 + 1) := wsuf_bd X (n + 1 + 1)
      omega
    · have hxl := wmax_le.1 hX
      rw [wat_zero hX (by omega)]
      exact wsuf_bd X (n + 1)
  have e6 : k * b ≤ wsuf X n := by omega
  rw [hs0] at e3
  rw [e2, e3, e1]
  have hp : (Y : Int) ≤ 1000000000 ^ n * b := by
    rw [e2, e3, hb]
    split
    · next h0 => subst h0; rw [wpre_zero]; simp
    · rw [Int.mul_add, Int.mul_add]; omega
  rw [e2, e3] at hp
  have h7 : k * (wpre Y n + 1000000000 ^ n * (wat Y n + 1000000000 * 0)) ≤ k * (1000000000 ^ n * b) := Int.mul_le_mul_of_nonneg_left hp hk0
  have h8 : (1000000000 : Int) ^ n * (k * b) ≤ 1000000000 ^ n * wsuf X n := Int.mul_le_mul_of_nonneg_left e6 (by omega)
  have h9 : k * (1000000000 ^ n * b) = 1000000000 ^ n * (k * b) := by rw [← Int.mul_assoc, Int.mul_comm k, Int.mul_assoc]
  omega

theorem est_div {A b k : Int} (hA : 0 ≤ A) (hb : 1 ≤ b) (hk : A.tdiv b = k) : 0 ≤ k ∧ k * b ≤ A ∧ k ≤ A := by
  subst hk
  rw [Int.tdiv_eq_ediv_of_nonneg hA]
  have h1 : 0 ≤ A / b := Int.ediv_nonneg hA (by omega)
  have h2 : A / b * b ≤ A := Int.ediv_mul_le A (by omega)
  have h3 : A / b * 1 ≤ A / b * b := Int.mul_le_mul_of_nonneg_left hb h1
  exact ⟨h1, h2, by omega⟩
theorem est_less {A b k k2 : Int} (h : k * b ≤ A) (hb : 1 ≤ b) (hk : k2 ≤ k) : k2 * b ≤ A := by
  have h3 : k2 * b ≤ k * b := Int.mul_le_mul_of_nonneg_right hk (by omega)
  omega
/-- What an estimate answers: at least 1, a word, and never too much. -/
def Est (w : World) (X Y : Nat) (e : Ending) (w' : World) : Prop := ∃ k : Int, e = .returned (.int .i64 k) ∧ 1 ≤ k ∧ k ≤ 999999999 ∧ k * Y ≤ X ∧ ∃ q, w' = w.drewN q

set_option maxRecDepth 100000 in
set_option maxHeartbeats 1000000 in
theorem estimate_c (bx bz : Nat) (sx sy : Bool) (X Y : Nat) (w : World) (hx : CW w bx sx X) (hy : CW w bz sy Y) (h0 : Y ≠ 0) (hle : Y ≤ X) :
    Calls Tryz.prog 77 #[.pointer (some ⟨bx, 0, none⟩), .pointer (some ⟨bz, 0, none⟩)] w (Est w X Y) := by
  have hn0 : wlen Y ≠ 0 := fun e => h0 (wlen_eq_zero.1 e)
  have hYl := hy.wl
  obtain ⟨n, hn⟩ : ∃ n, wlen Y = n + 1 := ⟨wlen Y - 1, by omega⟩
  have hc1 := hy.2.c1
  rw [hn] at hc1
  have hlaw := fun b k (h1 : b = _) => @est_law X Y n hx.1 hy.1 hn b k h1
  have hb1 := wat_bd X (n + 1)
  have hb2 := wat_bd X n
  have hb3 := wat_bd Y n
  have htop : 1 ≤ wat Y n := by
    have := (wtop_ne hy.1 h0).2
    rw [hn] at this
    simp at this
    omega
  have HX := Lib.hid hx; have HY := Lib.hid hy; have HN := Lib.hid hn; have HL := Lib.hid hlaw; have HLE := Lib.hid hle
  have hnl : n ≤ 231 := by omega
  clear hx hy hn hlaw hle hn0 h0 hYl
  have t1 : Hid (∀ q, Calls Tryz.prog 97 #[.pointer (some ⟨bx, 0, none⟩), .int .i64 ((n : Int) + 1)] (w.drewN q) (fun e w'' => e = .returned (.int .i64 (wat X (n + 1))) ∧ ∃ m, w'' = w.drewN m)) := Lib.hid (fun q => by
    have := top_c bx sx X (n + 1) (w.drewN q) ⟨HX.out.1, HX.out.2.drewN q⟩ (by omega)
    exact quiet_pur this)
  have t2 : Hid (∀ q, Calls Tryz.prog 97 #[.pointer (some ⟨bx, 0, none⟩), .int .i64 (n : Int)] (w.drewN q) (fun e w'' => e = .returned (.int .i64 (wat X n)) ∧ ∃ m, w'' = w.drewN m)) := Lib.hid (fun q => quiet_pur (top_c bx sx X n (w.drewN q) ⟨HX.out.1, HX.out.2.drewN q⟩ (by omega)))
  have t3 : Hid (∀ q, Calls Tryz.prog 97 #[.pointer (some ⟨bz, 0, none⟩), .int .i64 (n : Int)] (w.drewN q) (fun e w'' => e = .returned (.int .i64 (wat Y n)) ∧ ∃ m, w'' = w.drewN m)) := Lib.hid (fun q => quiet_pur (top_c bz sy Y n (w.drewN q) ⟨HY.out.1, HY.out.2.drewN q⟩ (by omega)))
  obtain ⟨a1, ha1⟩ : ∃ x, wat X (n + 1) = x := ⟨_, rfl⟩
  obtain ⟨a2, ha2⟩ : ∃ x, wat X n = x := ⟨_, rfl⟩
  obtain ⟨a3, ha3⟩ : ∃ x, wat Y n = x := ⟨_, rfl⟩
  rw [ha1] at hb1 t1 HL
  rw [ha2] at hb2 t2 HL
  rw [ha3] at hb3 htop t3 HL
  clear ha1 ha2 ha3
  have hsub : (n : Int) + 1 - 1 = (n : Int) := by omega
  have hwn : IntKind.i64.wrap (n : Int) = (n : Int) := IntWalk.i64_in _ (by omega)
  have hwn1 : IntKind.i64.wrap ((n : Int) + 1) = (n : Int) + 1 := IntWalk.i64_in _ (by omega)
  go_enter Tryz.func77, Tryz.ntmps77
  go_wp2_with fail
  go_quiet (first | (go_at_call 97; with_reducible exact t1.out _) | (go_at_call 97; with_reducible exact t2.out _) | (go_at_call 97; with_reducible exact t3.out _))
  have ha0 : 0 ≤ a1 * 1000000000 + a2 := by omega
  have ha1 : a1 * 1000000000 + a2 < 1000000000000000000 := by omega
  obtain ⟨A, hA⟩ : ∃ A, a1 * 1000000000 + a2 = A := ⟨_, rfl⟩
  rw [hA] at ha0 ha1 HL
  rw [hA]
  clear hA hsub hwn hwn1 t1 t2 t3
  by_cases hz : n = 0
  · subst hz
    have hlaw := fun k => HL.out a3 k (by simp)
    have HLAW := Lib.hid hlaw
    clear hlaw HL
    obtain ⟨kq, hkq⟩ : ∃ kq, A.tdiv a3 = kq := ⟨_, rfl⟩
    obtain ⟨hk0, hk1, hk2⟩ := est_div ha0 htop hkq
    have HK1 := Lib.hid hk1
    clear hk1
    by_cases hpos : 0 < kq
    · by_cases hmn : kq ≤ 999999999
      · go_wp2
        go_ret
        exact ⟨kq, by first | rfl | (rw [Int.min_def]; simp [hmn]), hpos, hmn, HLAW.out kq hk0 HK1.out, _, rfl⟩
      · have hb5 := est_less HK1.out (k2 := 999999999) (by omega) (by omega)
        have HB5 := Lib.hid hb5
        clear hb5
        go_wp2
        go_ret
        exact ⟨999999999, by first | rfl | (rw [Int.min_def, if_neg (by omega)]; rfl), by omega, by omega, HLAW.out _ (by omega) HB5.out, _, rfl⟩
    · go_wp2
      go_ret
      refine ⟨1, rfl, by omega, by omega, ?_, _, rfl⟩
      have := HLE.out
      omega
  · have hz2 : 1 ≤ n := by omega
    have hlaw := fun k => HL.out (a3 + 1) k (by rw [if_neg hz])
    have HLAW := Lib.hid hlaw
    clear hlaw HL
    obtain ⟨kq, hkq⟩ : ∃ kq, A.tdiv (a3 + 1) = kq := ⟨_, rfl⟩
    obtain ⟨hk0, hk1, hk2⟩ := est_div ha0 (by omega) hkq
    have HK1 := Lib.hid hk1
    clear hk1
    by_cases hpos : 0 < kq
    · by_cases hmn : kq ≤ 999999999
      · go_wp2
        go_ret
        exact ⟨kq, by first | rfl | (rw [Int.min_def]; simp [hmn]), hpos, hmn, HLAW.out kq hk0 HK1.out, _, rfl⟩
      · have hb5 := est_less HK1.out (k2 := 999999999) (by omega) (by omega)
        have HB5 := Lib.hid hb5
        clear hb5
        go_wp2
        go_ret
        exact ⟨999999999, by first | rfl | (rw [Int.min_def, if_neg (by omega)]; rfl), by omega, by omega, HLAW.out _ (by omega) HB5.out, _, rfl⟩
    · go_wp2
      go_ret
      refine ⟨1, rfl, by omega, by omega, ?_, _, rfl⟩
      have := HLE.out
      omega
end Go.Proofs.Wk
