/- THE PROGRAM's ARITHMETIC: quotients and remainders; ints of texts; signs; the order. -/
import Derived.Test.YtcdjhgkeehhaaaaGreatDoorGJ
import Derived.Test.YtcdjhgkeehhaaaaGreatDoorGI
namespace Go.Proofs.Wk
open Go.RowKit Mt

/-- Two texts are wrong, or two integers. -/
theorem bin_cases {P : Txt → Txt → Prop} (a b : Txt) (herr : both a b ≠ 0 → P a b) (hok : ∀ m n : Int, m.natAbs < big → n.natAbs < big → P (Lib.itoa m) (Lib.itoa n)) : P a b := by
  by_cases h : both a b = 0
  · obtain ⟨ea, la⟩ := ok_text (both_zero.1 h).1
    obtain ⟨eb, lb⟩ := ok_text (both_zero.1 h).2
    rw [← ea, ← eb]
    exact hok _ _ la lb
  · exact herr h
theorem un_cases {P : Txt → Prop} (a : Txt) (herr : chk a ≠ 0 → P a) (hok : ∀ m : Int, m.natAbs < big → P (Lib.itoa m)) : P a := by
  by_cases h : chk a = 0
  · obtain ⟨ea, la⟩ := ok_text h
    rw [← ea]
    exact hok _ la
  · exact herr h
theorem chk_ok {m : Int} (h : m.natAbs < big) : chk (Lib.itoa m) = 0 := by rw [chk_itoa, if_pos h]
theorem both_ok {m n : Int} (hm : m.natAbs < big) (hn : n.natAbs < big) : both (Lib.itoa m) (Lib.itoa n) = 0 := both_zero.2 ⟨chk_ok hm, chk_ok hn⟩
theorem bin3_itoa (f : Int → Int → Txt × Txt × Int) {m n : Int} (hm : m.natAbs < big) (hn : n.natAbs < big) : bin3 f (Lib.itoa m) (Lib.itoa n) = f m n := by
  unfold bin3; rw [if_pos (both_ok hm hn), val_itoa, val_itoa]
theorem un1_itoa (f : Int → Txt × Int) {m : Int} (hm : m.natAbs < big) : un1 f (Lib.itoa m) = f m := by
  unfold un1; rw [if_pos (chk_ok hm), val_itoa]
theorem bne_ne {x : Int} (h : x ≠ 0) : (x != 0) = true := by rw [bne_iff_ne]; exact h

set_option maxRecDepth 100000 in
set_option maxHeartbeats 2000000 in
theorem parted_c (a b : List UInt8) (w : World) (hg : Good w) (ha : a.length ≤ 140737488355328) (hb : b.length ≤ 140737488355328) : Calls Tryz.prog 151 #[.string ⟨a.toArray⟩, .string ⟨b.toArray⟩] w (Ret w (ans3 (bin3 prt a b))) := by
  revert ha hb
  refine bin_cases (P := fun a b => a.length ≤ 140737488355328 → b.length ≤ 140737488355328 → Calls Tryz.prog 151 #[.string ⟨a.toArray⟩, .string ⟨b.toArray⟩] w (Ret w (ans3 (bin3 prt a b)))) a b ?_ ?_
  · intro h ha hb
    have HB := Lib.hid (fun t => allz a b w ha hb t)
    rw [show bin3 prt a b = ([], [], both a b) by unfold bin3; rw [if_neg h]]
    generalize both a b = x at *
    have h2 := bne_ne h
    go_enter Tryz.func151, Tryz.ntmps151
    go_wp2_with fail
    refine (HB.out _).mono ?_; rintro e w1 ⟨rfl, hb1⟩
    go_wp2
    go_ret3
    exact ⟨rfl, hb1⟩
  · intro m n hm hn ha hb
    rw [bin3_itoa _ hm hn]
    by_cases h0 : n = 0
    · subst h0
      have HB := Lib.hid (fun t => allz (Lib.itoa m) (Lib.itoa 0) w ha hb t)
      rw [both_ok hm hn] at HB
      rw [show prt m 0 = ([], [], 10) from rfl]
      rw [itoa_zero] at HB ⊢
      clear ha hb hm hn hg
      go_enter Tryz.func151, Tryz.ntmps151
      go_wp2_with fail
      refine (HB.out _).mono ?_; rintro e w1 ⟨rfl, hb1⟩
      go_wp2
      go_ret3
      exact ⟨rfl, hb1⟩
    · by_cases hs : (Lib.itoa m).length ≤ 9 ∧ (Lib.itoa n).length ≤ 9
      · exact parted_small m n w hg h0 hs.1 hs.2
      · exact parted_big m n w hg h0 hm hn hs

/-- The quotient alone, and the remainder alone. -/
def quo2 (m n : Int) : Txt × Int := if n = 0 then ([], 10) else (Lib.itoa (m.fdiv n), 0)
def rem2 (m n : Int) : Txt × Int := if n = 0 then ([], 10) else (Lib.itoa (m.fmod n), 0)
def PRes (a b : Txt) : Prop := (∃ c, c ≠ 0 ∧ bin3 prt a b = ([], [], c) ∧ bin2 quo2 a b = ([], c) ∧ bin2 rem2 a b = ([], c)) ∨
    (∃ q r : Int, q.natAbs < big ∧ bin3 prt a b = (Lib.itoa q, Lib.itoa r, 0) ∧ bin2 quo2 a b = (Lib.itoa q, 0) ∧ bin2 rem2 a b = (Lib.itoa r, 0))
theorem bin3_cases (a b : Txt) : PRes a b := by
  refine bin_cases (P := PRes) a b ?_ ?_
  · intro h
    exact .inl ⟨both a b, h, by unfold bin3; rw [if_neg h], by unfold bin2; rw [if_neg h], by unfold bin2; rw [if_neg h]⟩
  · intro m n hm hn
    unfold PRes
    rw [bin3_itoa _ hm hn, bin2_itoa _ hm hn, bin2_itoa _ hm hn]
    by_cases h0 : n = 0
    · exact .inl ⟨10, by omega, by simp [prt, h0], by simp [quo2, h0], by simp [rem2, h0]⟩
    · exact .inr ⟨m.fdiv n, m.fmod n, Nat.lt_of_le_of_lt (fdiv_le h0) hm, by simp [prt, h0], by simp [quo2, h0], by simp [rem2, h0]⟩

set_option maxRecDepth 100000 in
set_option maxHeartbeats 1000000 in
theorem wQuo_c (a b : List UInt8) (w : World) (hg : Good w) (ha : a.length ≤ 140737488355328) (hb : b.length ≤ 140737488355328) : Calls Tryz.prog 117 #[.string ⟨a.toArray⟩, .string ⟨b.toArray⟩] w (Ret w (ans2 (bin2 quo2 a b))) := by
  have hp := parted_c a b w hg ha hb
  have hB0 := Below.refl w.heap.size w
  rcases bin3_cases a b with ⟨c, hc, e1, e2, e3⟩ | ⟨q, r, hq, e1, e2, e3⟩
  · rw [e1] at hp; rw [e2]
    have HP := Lib.hid hp
    have h2 := bne_ne hc
    clear hp e1 e2 e3 hg ha hb
    go_enter Tryz.func117, Tryz.ntmps117
    go_wp2_with fail
    refine (HP.out).mono ?_; rintro e w1 ⟨rfl, hb1⟩
    have hB1 := hB0.trans (hb1.mono hB0.size); clear hb1
    go_wp2
    go_ret2
    exact ⟨rfl, hB1⟩
  · rw [e1] at hp; rw [e2]
    have hck := wCheck_c (Lib.itoa q)
    rw [chk_ok hq] at hck
    have HC := Lib.hid hck
    have hl := lng_txt hq
    have HP := Lib.hid hp
    clear hp e1 e2 e3 hg ha hb hck
    go_enter Tryz.func117, Tryz.ntmps117
    go_wp2_with fail
    refine (HP.out).mono ?_; rintro e w1 ⟨rfl, hb1⟩
    have hB1 := hB0.trans (hb1.mono hB0.size); clear hb1
    go_wp2_with fail
    refine (HC.out _ hl).mono ?_; rintro e w2 ⟨rfl, hb2⟩
    have hB2 := hB1.trans (hb2.mono hB1.size); clear hb2
    go_wp2
    go_ret2
    exact ⟨rfl, hB2⟩


/-- The int of a text, or an error. -/
def inR (n : Int) : Prop := -9223372036854775808 ≤ n ∧ n ≤ 9223372036854775807
instance (n : Int) : Decidable (inR n) := inferInstanceAs (Decidable (_ ∧ _))
def small2 (n : Int) : Int × Int := if inR n then (n, 0) else (0, 2)
def un2 (f : Int → Int × Int) (a : Txt) : Int × Int := if chk a = 0 then f (val a) else (0, chk a)
theorem un2_itoa (f : Int → Int × Int) {m : Int} (hm : m.natAbs < big) : un2 f (Lib.itoa m) = f m := by unfold un2; rw [if_pos (chk_ok hm), val_itoa]
def bin2i (f : Int → Int → Int × Int) (a b : Txt) : Int × Int := if both a b = 0 then f (val a) (val b) else (0, both a b)
theorem bin2i_itoa (f : Int → Int → Int × Int) {m n : Int} (hm : m.natAbs < big) (hn : n.natAbs < big) : bin2i f (Lib.itoa m) (Lib.itoa n) = f m n := by unfold bin2i; rw [if_pos (both_ok hm hn), val_itoa, val_itoa]
abbrev int2 (r : Int × Int) : Value := .tuple #[.int .i64 r.1, .int .i64 r.2]

set_option maxRecDepth 100000 in
set_option maxHeartbeats 1000000 in
theorem wSign_c (a : List UInt8) (w : World) (ha : a.length ≤ 140737488355328) : Calls Tryz.prog 169 #[.string ⟨a.toArray⟩] w (Ret w (int2 (un2 (fun n => (sgn n, 0)) a))) := by
  revert ha
  have hB0 := Below.refl w.heap.size w
  refine un_cases (P := fun a => a.length ≤ 140737488355328 → Calls Tryz.prog 169 #[.string ⟨a.toArray⟩] w (Ret w (int2 (un2 (fun n => (sgn n, 0)) a)))) a ?_ ?_
  · intro h ha
    have HC := Lib.hid (fun W => wCheck_c a W ha)
    rw [show un2 (fun n => (sgn n, 0)) a = (0, chk a) by unfold un2; rw [if_neg h]]
    generalize chk a = x at *
    have h2 := bne_ne h
    go_enter Tryz.func169, Tryz.ntmps169
    go_wp2_with fail
    refine (HC.out _).mono ?_; rintro e w1 ⟨rfl, hb1⟩
    have hB1 := hB0.trans (hb1.mono hB0.size); clear hb1
    go_wp2
    go_ret2
    exact ⟨rfl, hB1⟩
  · intro m hm ha
    have HC := Lib.hid (fun W => wCheck_c (Lib.itoa m) W ha)
    rw [chk_ok hm] at HC
    rw [un2_itoa _ hm]
    clear hm ha
    go_enter Tryz.func169, Tryz.ntmps169
    go_wp2_with fail
    refine (HC.out _).mono ?_; rintro e w1 ⟨rfl, hb1⟩
    have hB1 := hB0.trans (hb1.mono hB0.size); clear hb1
    go_wp2_with fail
    refine (sign_c m _).mono ?_; rintro e w' ⟨rfl, rfl⟩
    go_wp2
    go_ret2
    exact ⟨rfl, hB1⟩

theorem cmp_spec (m n : Int) : (m < n ∧ cmp m n = -1) ∨ (m = n ∧ cmp m n = 0) ∨ (n < m ∧ cmp m n = 1) := by
  unfold cmp
  rcases Int.lt_trichotomy m n with h | h | h
  · exact .inl ⟨h, if_pos h⟩
  · exact .inr (.inl ⟨h, by rw [if_neg (by omega), if_neg (by omega)]⟩)
  · exact .inr (.inr ⟨h, by rw [if_neg (by omega), if_pos h]⟩)
theorem cmp_len {m n : Int} (h : sgn m = sgn n) : sgn m * cmp m.natAbs n.natAbs = cmp m n := by
  have A := cmp_spec m 0
  have B := cmp_spec n 0
  have C := cmp_spec m n
  have D := cmp_spec m.natAbs n.natAbs
  unfold sgn at *
  generalize cmp m 0 = x at *
  generalize cmp n 0 = y at *
  generalize cmp m n = c at *
  generalize cmp (m.natAbs : Int) n.natAbs = d at *
  subst h
  rcases A with ⟨_, rfl⟩ | ⟨_, rfl⟩ | ⟨_, rfl⟩ <;> omega
theorem cmp_sgn (m n : Int) : cmp m n = if sgn m < sgn n then -1 else if sgn n < sgn m then 1 else cmp m n := by
  have A := cmp_spec m 0
  have B := cmp_spec n 0
  have C := cmp_spec m n
  unfold sgn at *
  generalize cmp m 0 = x at *
  generalize cmp n 0 = y at *
  generalize cmp m n = c at *
  split
  · omega
  · split <;> omega

set_option maxRecDepth 100000 in
set_option maxHeartbeats 1000000 in
theorem wCompare_c (a b : List UInt8) (w : World) (ha : a.length ≤ 140737488355328) (hb : b.length ≤ 140737488355328) : Calls Tryz.prog 20 #[.string ⟨a.toArray⟩, .string ⟨b.toArray⟩] w (Ret w (int2 (bin2i (fun m n => (cmp m n, 0)) a b))) := by
  revert ha hb
  refine bin_cases (P := fun a b => a.length ≤ 140737488355328 → b.length ≤ 140737488355328 → Calls Tryz.prog 20 #[.string ⟨a.toArray⟩, .string ⟨b.toArray⟩] w (Ret w (int2 (bin2i (fun m n => (cmp m n, 0)) a b)))) a b ?_ ?_
  · intro h ha hb
    have HB := Lib.hid (fun t => allz a b w ha hb t)
    rw [show bin2i (fun m n => (cmp m n, 0)) a b = (0, both a b) by unfold bin2i; rw [if_neg h]]
    generalize both a b = x at *
    have h2 := bne_ne h
    go_enter Tryz.func20, Tryz.ntmps20
    go_wp2_with fail
    refine (HB.out _).mono ?_; rintro e w1 ⟨rfl, hb1⟩
    go_wp2
    go_ret2
    exact ⟨rfl, hb1⟩
  · intro m n hm hn ha hb
    have HB := Lib.hid (fun t => allz (Lib.itoa m) (Lib.itoa n) w ha hb t)
    rw [both_ok hm hn] at HB
    rw [bin2i_itoa _ hm hn]
    have hT1 := Lib.hid (fun W => TrimPrefix_c (Lib.itoa m) W)
    have hT2 := Lib.hid (fun W => TrimPrefix_c (Lib.itoa n) W)
    rw [body_itoa] at hT1 hT2
    have hs1 := Lib.hid (fun W => sign_c m W)
    have hs2 := Lib.hid (fun W => sign_c n W)
    have hl := @cmp_len m n
    have h3 := cmp_sgn m n
    obtain ⟨x, hx⟩ : ∃ x, sgn m = x := ⟨_, rfl⟩
    obtain ⟨y, hy⟩ : ∃ y, sgn n = y := ⟨_, rfl⟩
    obtain ⟨c, hc⟩ : ∃ c, cmp m n = c := ⟨_, rfl⟩
    obtain ⟨d, hd⟩ : ∃ d, cmp (m.natAbs : Int) n.natAbs = d := ⟨_, rfl⟩
    have hxb : -1 ≤ x ∧ x ≤ 1 := by rw [← hx]; unfold sgn cmp; split <;> (try split) <;> omega
    have hdb : -1 ≤ d ∧ d ≤ 1 := by rw [← hd]; unfold cmp; split <;> (try split) <;> omega
    have ho := Lib.hid (fun W => order_c m.natAbs n.natAbs W)
    rw [hx] at hs1 hl h3
    rw [hy] at hs2 hl h3
    rw [hc] at hl h3 ⊢
    rw [hd] at hl ho
    obtain ⟨hx0, hx1⟩ := hxb
    obtain ⟨hd0, hd1⟩ := hdb
    clear hx hy hc hd ha hb hm hn
    by_cases hlt : x < y
    · rw [if_pos hlt] at h3
      subst h3
      clear hl
      go_enter Tryz.func20, Tryz.ntmps20
      go_wp2_with fail
      refine (HB.out _).mono ?_; rintro e w1 ⟨rfl, hb1⟩
      go_wp2_with fail
      refine (hs1.out _).mono ?_; rintro e w' ⟨rfl, rfl⟩
      go_wp2_with fail
      refine (hs2.out _).mono ?_; rintro e w' ⟨rfl, rfl⟩
      go_wp2
      go_ret2
      exact ⟨rfl, hb1⟩
    · rw [if_neg hlt] at h3
      by_cases hgt : y < x
      · rw [if_pos hgt] at h3
        subst h3
        clear hl
        go_enter Tryz.func20, Tryz.ntmps20
        go_wp2_with fail
        refine (HB.out _).mono ?_; rintro e w1 ⟨rfl, hb1⟩
        go_wp2_with fail
        refine (hs1.out _).mono ?_; rintro e w' ⟨rfl, rfl⟩
        go_wp2_with fail
        refine (hs2.out _).mono ?_; rintro e w' ⟨rfl, rfl⟩
        go_wp2_with fail
        refine (hs2.out _).mono ?_; rintro e w' ⟨rfl, rfl⟩
        go_wp2
        go_ret2
        exact ⟨rfl, hb1⟩
      · have hxy : x = y := by omega
        subst hxy
        have HL := Lib.hid (hl rfl)
        have hp : -1 ≤ x * d ∧ x * d ≤ 1 := by
          have e1 : x = -1 ∨ x = 0 ∨ x = 1 := by omega
          rcases e1 with rfl | rfl | rfl <;> omega
        obtain ⟨hp0, hp1⟩ := hp
        clear hl h3 hlt hgt
        have hxx : ¬ x < x := by omega
        go_enter Tryz.func20, Tryz.ntmps20
        go_wp2_with fail
        refine (HB.out _).mono ?_; rintro e w1 ⟨rfl, hb1⟩
        go_wp2_with fail
        refine (hs1.out _).mono ?_; rintro e w' ⟨rfl, rfl⟩
        go_wp2_with fail
        refine (hs2.out _).mono ?_; rintro e w' ⟨rfl, rfl⟩
        go_wp2_with fail
        refine (hs2.out _).mono ?_; rintro e w' ⟨rfl, rfl⟩
        go_wp2_with fail
        refine (hT1.out _).mono ?_; rintro e w' ⟨rfl, rfl⟩
        go_wp2_with fail
        refine (hT2.out _).mono ?_; rintro e w' ⟨rfl, rfl⟩
        go_wp2_with fail
        refine (ho.out _).mono ?_; rintro e w' ⟨rfl, rfl⟩
        go_wp2
        go_ret2
        rw [← HL.out]
        exact ⟨rfl, hb1⟩
end Go.Proofs.Wk
/- THE PROGRAM's ARITHMETIC: the greatest common divisor. -/
namespace Go.Proofs.Wk
open Go.RowKit Mt

theorem gcd_step (X Y : Nat) : Nat.gcd Y (X % Y) = Nat.gcd X Y := by rw [Nat.gcd_comm Y, ← Nat.gcd_rec, Nat.gcd_comm]
theorem wat_word {X : Nat} (h : X < wmax) (h1 : wlen X ≤ 1) : wat X 0 = X := by
  have e := wpre_all h h1
  rw [wpre_succ, wpre_zero] at e
  simpa using e
def gcd2 (m n : Int) : Txt × Int := (Lib.itoa (Int.gcd m n), 0)
theorem gcd_int (m n : Int) : Int.gcd m n = Nat.gcd m.natAbs n.natAbs := rfl

set_option maxRecDepth 100000 in
set_option maxHeartbeats 2000000 in
theorem gcd_ok (m n : Int) (w : World) (hg : Good w) (hm : m.natAbs < big) (hn : n.natAbs < big) : Calls Tryz.prog 59 #[.string ⟨(Lib.itoa m).toArray⟩, .string ⟨(Lib.itoa n).toArray⟩] w (Ret w (ans2 (gcd2 m n))) := by
  have HB := Lib.hid (fun t => allz (Lib.itoa m) (Lib.itoa n) w (lng_txt hm) (lng_txt hn) t)
  rw [both_ok hm hn] at HB
  have HG := Lib.hid hg
  have HRM := Lib.hid (fun W => read_c m W (by have := lng_big hm; omega))
  have HRN := Lib.hid (fun W => read_c n W (by have := lng_big hn; omega))
  unfold gcd2
  rw [gcd_int]
  have hYl : wlen n.natAbs ≤ 231 := (wlen_le 231 _).2 (Nat.lt_of_lt_of_le (big_words hn) (Nat.pow_le_pow_right (by omega) (by omega)))
  obtain ⟨sx, hsx⟩ : ∃ s, decide (m < 0) = s := ⟨_, rfl⟩
  obtain ⟨sy, hsy⟩ : ∃ s, decide (n < 0) = s := ⟨_, rfl⟩
  obtain ⟨X, hX⟩ : ∃ X, m.natAbs = X := ⟨_, rfl⟩
  obtain ⟨Y, hY⟩ : ∃ Y, n.natAbs = Y := ⟨_, rfl⟩
  rw [hsx, hX] at HRM
  rw [hsy, hY] at HRN
  rw [hX, hY]
  rw [hY] at hYl
  obtain ⟨G, hG⟩ : ∃ G, Nat.gcd X Y = G := ⟨_, rfl⟩
  rw [hG]
  have HGG := Lib.hid hG; have HYL := Lib.hid hYl
  clear hsx hsy hX hY hG hYl hm hn hg
  go_enter Tryz.func59, Tryz.ntmps59
  go_wp2_with fail
  refine (HB.out _).mono ?_; rintro e w1 ⟨rfl, hb1⟩
  go_wp2_with fail
  refine (HRM.out _).mono ?_; rintro e w3 ⟨g, rfl, hgg, hC, hb3⟩
  have hB3 := hb1.trans (hb3.mono hb1.size)
  have HC := Lib.hid hC
  have hglt := hC.lt
  clear hC
  go_wp2_with fail
  refine (HRN.out _).mono ?_; rintro e w4 ⟨g2, rfl, hgg2, hC2, hb4⟩
  have hB4 := hB3.trans (hb4.mono hB3.size)
  have HC2 := Lib.hid hC2
  have HC1 := Lib.hid (HC.out.later hb4 hglt)
  have hw1 := hb1.size
  have hw3 := hB3.size
  clear hC2 HC
  go_wp2_with fail
  go_loopg [7, 8] Y (fun k px py wr => ∃ (a b : Nat) (s t : Bool) (A : Nat), px = .pointer (some ⟨a, 0, none⟩) ∧ py = .pointer (some ⟨b, 0, none⟩) ∧ w.heap.size ≤ a ∧ Hid (CW wr a s A) ∧ Hid (CW wr b t k) ∧ Hid (Nat.gcd A k = G) ∧ Hid (wlen k ≤ 231) ∧ w.heap.size ≤ b ∧ Below w.heap.size w wr)
  case atStart => exact ⟨g, g2, sx, sy, X, rfl, rfl, by omega, HC1, HC2, HGG, HYL, by omega, hB4⟩
  case round =>
    clear HC1 HC2 HGG HYL
    obtain ⟨a, b, s, t, A, rfl, rfl, ha, hA, hB, hG, hl, hb, hBw⟩ := hrel
    have ca1 := hA.out.2.c1
    have cb1 := hB.out.2.c1
    have hal := hA.out.lt
    have hbl := hB.out.lt
    by_cases hk : gk = 0
    · subst hk
      rw [wlen_zero] at cb1
      have hf := hA.out.2.free 0
      have c0 := hA.out.2.c0
      have hA2 := Lib.hid (hA.out.set0 false)
      have hBw2 := Lib.hid (hBw.setCell (p := ⟨a, 0, none⟩) ha (.bool false))
      have hAG : A = G := by rw [← hG.out, Nat.gcd_zero_right]
      have HAG := Lib.hid hAG
      clear ca1 hAG
      go_wp2_with fail
      refine (text_c a false A _ hA2.out (HG.out.later hBw2.out)).mono ?_; rintro e w5 ⟨rfl, hb5⟩
      have hB5 := hBw2.out.trans (hb5.mono hBw2.out.size)
      go_wp2
      go_ret2
      refine ⟨?_, hB5⟩
      rw [← HAG.out]
      rfl
    · have hk1 : 0 < wlen gk := by have := mt wlen_eq_zero.1 hk; omega
      have HK := Lib.hid hk
      have hwa := hA.out.wl
      have hwb := hB.out.wl
      clear hk
      by_cases hs : wlen A ≤ 1 ∧ wlen gk ≤ 1
      · obtain ⟨h1, h2⟩ := hs
        have ca2 := hA.out.2.cw (i := 0) (by rw [wds_length]; omega)
        have cb2 := hB.out.2.cw (i := 0) (by rw [wds_length]; omega)
        rw [wat_get (by rw [wds_length]; omega), wat_word hA.out.1 h1] at ca2
        rw [wat_get (by rw [wds_length]; omega), wat_word hB.out.1 h2] at cb2
        have hA9 : A < 1000000000 := by have := (wlen_le 1 A).1 h1; omega
        have hB9 : gk < 1000000000 := by have := (wlen_le 1 gk).1 h2; omega
        rw [Nat.add_zero] at ca2 cb2
        have HA9 := Lib.hid hA9; have HB9 := Lib.hid hB9
        clear hwa hwb hA9 hB9
        go_wp2_with fail
        try go_quiet (fail)
        go_wp2_with fail
        obtain ⟨wo, rfl⟩ : ∃ wo : World, wo = wr := ⟨_, rfl⟩
        go_loopw [9, 10] (fun p q wr => ∃ (x y : Nat), p = .int .i64 (x : Int) ∧ q = .int .i64 (y : Int) ∧ x < 1000000000 ∧ y < 1000000000 ∧ Hid (Nat.gcd x y = G) ∧ Below w.heap.size w wr) (fun _ q _ => (intOf q).toNat)
        case atStart => exact ⟨A, gk, rfl, rfl, HA9.out, HB9.out, hG, by first | exact hBw | exact below_drewN hBw _⟩
        case round =>
          clear ca1 cb1 ca2 cb2 hA hB hG hBw HA9 HB9
          obtain ⟨x, y, rfl, rfl, hx, hy, hG, hBw⟩ := hrel
          by_cases hy0 : y = 0
          · subst hy0
            have hxG : x = G := by rw [← hG.out, Nat.gcd_zero_right]
            have HAG := Lib.hid hxG
            clear hxG
            go_wp2_with fail
            refine (wOf_c (x : Int) _ (HG.out.later hBw) (by omega) (by omega)).mono ?_; rintro e w5 ⟨rfl, hb5⟩
            have hB5 := hBw.trans (hb5.mono hBw.size)
            go_wp2
            go_ret2
            refine ⟨?_, hB5⟩
            rw [← HAG.out]
            rfl
          · have hyp : 0 < y := by omega
            have hst := gcd_step x y
            have hlt := Nat.mod_lt x hyp
            have HST := Lib.hid hst
            clear hst
            go_wp2_with fail
            go_quiet (fail)
            go_wp2_with fail
            go_roundw
            case rel => exact ⟨y, x % y, rfl, by go_num, hy, by omega, by show _ = _; rw [HST.out]; exact hG.out, below_drewN hBw _⟩
            case measure => simp [intOf]; omega
      · have hpick : ¬ wlen A ≤ 1 ∨ (wlen A ≤ 1 ∧ ¬ wlen gk ≤ 1) := by
          by_cases h1 : wlen A ≤ 1
          · exact .inr ⟨h1, fun h2 => hs ⟨h1, h2⟩⟩
          · exact .inl h1
        clear hs
        have hst := gcd_step A gk
        have hmod := Nat.mod_lt A (Nat.pos_of_ne_zero HK.out)
        have hml := less_wlen hmod hl.out
        have HST := Lib.hid hst; have HMOD := Lib.hid hmod; have HML := Lib.hid hml
        clear hst hmod hml
        rcases hpick with h1 | ⟨h1, h2⟩
        all_goals
          go_wp2_with fail
          try go_quiet (fail)
          go_wp2_with fail
          refine (divided_c a b s t A gk _ hA.out hB.out HK.out hl.out).mono ?_; rintro e w5 ⟨gq, gr, rfl, hgq, hgr, hqr, hCq, hCr, hb5⟩
          have hB5 := hBw.trans (hb5.mono hBw.size)
          have hk5 := hB.out.later hb5 hbl
          have hs0 := hBw.size
          go_wp2_with fail
          go_roundg (A % gk)
          case measure => exact HMOD.out
          case rel => exact ⟨b, gr, t, false, gk, rfl, rfl, hb, hk5, hCr, by show _ = _; rw [HST.out]; exact hG.out, HML, by omega, hB5⟩
end Go.Proofs.Wk
/- THE PROGRAM's ARITHMETIC: powers, binomials, sums of lists. -/
namespace Go.Proofs.Wk
open Go.RowKit Mt

set_option maxRecDepth 100000 in
set_option maxHeartbeats 1000000 in
theorem wGcd_c (a b : List UInt8) (w : World) (hg : Good w) (ha : a.length ≤ 140737488355328) (hb : b.length ≤ 140737488355328) : Calls Tryz.prog 59 #[.string ⟨a.toArray⟩, .string ⟨b.toArray⟩] w (Ret w (ans2 (bin2 gcd2 a b))) := by
  revert ha hb
  refine bin_cases (P := fun a b => a.length ≤ 140737488355328 → b.length ≤ 140737488355328 → Calls Tryz.prog 59 #[.string ⟨a.toArray⟩, .string ⟨b.toArray⟩] w (Ret w (ans2 (bin2 gcd2 a b)))) a b ?_ ?_
  · intro h ha hb
    have HB := Lib.hid (fun t => allz a b w ha hb t)
    rw [show bin2 gcd2 a b = ([], both a b) by unfold bin2; rw [if_neg h]]
    generalize both a b = x at *
    have h2 := bne_ne h
    go_enter Tryz.func59, Tryz.ntmps59
    go_wp2_with fail
    refine (HB.out _).mono ?_; rintro e w1 ⟨rfl, hb1⟩
    go_wp2
    go_ret2
    exact ⟨rfl, hb1⟩
  · intro m n hm hn _ _
    rw [bin2_itoa _ hm hn]
    exact gcd_ok m n w hg hm hn

end Go.Proofs.Wk
