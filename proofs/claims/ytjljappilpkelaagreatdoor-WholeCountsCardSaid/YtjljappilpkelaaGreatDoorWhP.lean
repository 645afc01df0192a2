/- THE PROGRAM's ARITHMETIC: quotients and remainders; ints of texts; signs; the order. -/
import Derived.Test.YtjljappilpkelaaGreatDoorWhO
import Derived.Test.YtjljappilpkelaaGreatDoorMathZ
namespace Go.Proofs.Wk
open Go.RowKit Mt

/-- Two texts are wrong, or two integers. -/
theorem bin_cases {P : Txt → Txt → Prop} (a b : Txt) (herr : both a b ≠ 0 → P a b) (hok : ∀ m n : Int, m.natAbs < big → n.natAbs < big → P (Lib.itoa m) (Lib.itoa n)) : P a b := by
  by_cases h : both a b = 0
  · obtain ⟨ea, la⟩ := ok_text (both_zero.1 h).1
    obtain ⟨eb, lb⟩ := ok_text (both_zero.1 h).2
    rw [← ea, ← eb]
    exact hok _ _ la lb
  · exact herr h
theorem un_cases {P : Txt → Prop} (a : Txt) (herr : chk a ≠ 0 → P a) (hok : ∀ m : Int, m.natAbs < big → P (Lib.itoa m)) : P a := by
  by_cases h : chk a = 0
  · obtain ⟨ea, la⟩ := ok_text h
    rw [← ea]
    exact hok _ la
  · exact herr h
theorem chk_ok {m : Int} (h : m.natAbs < big) : chk (Lib.itoa m) = 0 := by rw [chk_itoa, if_pos h]
theorem both_ok {m n : Int} (hm : m.natAbs < big) (hn : n.natAbs < big) : both (Lib.itoa m) (Lib.itoa n) = 0 := both_zero.2 ⟨chk_ok hm, chk_ok hn⟩
theorem bin3_itoa (f : Int → Int → Txt × Txt × Int) {m n : Int} (hm : m.natAbs < big) (hn : n.natAbs < big) : bin3 f (Lib.itoa m) (Lib.itoa n) = f m n := by
  unfold bin3; rw [if_pos (both_ok hm hn), val_itoa, val_itoa]
theorem un1_itoa (f : Int → Txt × Int) {m : Int} (hm : m.natAbs < big) : un1 f (Lib.itoa m) = f m := by
  unfold un1; rw [if_pos (chk_ok hm), val_itoa]
theorem bne_ne {x : Int} (h : x ≠ 0) : (x != 0) = true := by rw [bne_iff_ne]; exact h

set_option maxRecDepth 100000 in
set_option maxHeartbeats 2000000 in
theorem parted_c (a b : List UInt8) (w : World) (hg : Good w) (ha : a.length ≤ 140737488355328) (hb : b.length ≤ 140737488355328) : Calls Tryz.prog 48 #[.string ⟨a.toArray⟩, .string ⟨b.toArray⟩] w (Ret w (ans3 (bin3 prt a b))) := by
  revert ha hb
  refine bin_cases (P := fun a b => a.length ≤ 140737488355328 → b.length ≤ 140737488355328 → Calls Tryz.prog 48 #[.string ⟨a.toArray⟩, .string ⟨b.toArray⟩] w (Ret w (ans3 (bin3 prt a b)))) a b ?_ ?_
  · intro h ha hb
    have HB := Lib.hid (fun t => allz a b w ha hb t)
    rw [show bin3 prt a b = ([], [], both a b) by unfold bin3; rw [if_neg h]]
    generalize both a b = x at *
    have h2 := bne_ne h
    go_enter Tryz.func48, Tryz.ntmps48
    go_wp2_with fail
    refine (HB.out _).mono ?_; rintro e w1 ⟨rfl, hb1⟩
    go_wp2
    go_ret3
    exact ⟨rfl, hb1⟩
  · intro m n hm hn ha hb
    rw [bin3_itoa _ hm hn]
    by_cases h0 : n = 0
    · subst h0
      have HB := Lib.hid (fun t => allz (Lib.itoa m) (Lib.itoa 0) w ha hb t)
      rw [both_ok hm hn] at HB
      rw [show prt m 0 = ([], [], 10) from rfl]
      rw [itoa_zero] at HB ⊢
      clear ha hb hm hn hg
      go_enter Tryz.func48, Tryz.ntmps48
      go_wp2_with fail
      refine (HB.out _).mono ?_; rintro e w1 ⟨rfl, hb1⟩
      go_wp2
      go_ret3
      exact ⟨rfl, hb1⟩
    · by_cases hs : (Lib.itoa m).length ≤ 9 ∧ (Lib.itoa n).length ≤ 9
      · exact parted_small m n w hg h0 hs.1 hs.2
      · exact parted_big m n w hg h0 hm hn hs

/-- The quotient alone, and the remainder alone. -/
def quo2 (m n : Int) : Txt × Int := if n = 0 then ([], 10) else (Lib.itoa (m.fdiv n), 0)
def rem2 (m n : Int) : Txt × Int := if n = 0 then ([], 10) else (Lib.itoa (m.fmod n), 0)
def PRes (a b : Txt) : Prop := (∃ c, c ≠ 0 ∧ bin3 prt a b = ([], [], c) ∧ bin2 quo2 a b = ([], c) ∧ bin2 rem2 a b = ([], c)) ∨
    (∃ q r : Int, q.natAbs < big ∧ bin3 prt a b = (Lib.itoa q, Lib.itoa r, 0) ∧ bin2 quo2 a b = (Lib.itoa q, 0) ∧ bin2 rem2 a b = (Lib.itoa r, 0))
theorem bin3_cases (a b : Txt) : PRes a b := by
  refine bin_cases (P := PRes) a b ?_ ?_
  · intro h
    exact .inl ⟨both a b, h, by unfold bin3; rw [if_neg h], by unfold bin2; rw [if_neg h], by unfold bin2; rw [if_neg h]⟩
  · intro m n hm hn
    unfold PRes
    rw [bin3_itoa _ hm hn, bin2_itoa _ hm hn, bin2_itoa _ hm hn]
    by_cases h0 : n = 0
    · exact .inl ⟨10, by omega, by simp [prt, h0], by simp [quo2, h0], by simp [rem2, h0]⟩
    · exact .inr ⟨m.fdiv n, m.fmod n, Nat.lt_of_le_of_lt (fdiv_le h0) hm, by simp [prt, h0], by simp [quo2, h0], by simp [rem2, h0]⟩

set_option maxRecDepth 100000 in
set_option maxHeartbeats 1000000 in
theorem wQuo_c (a b : List UInt8) (w : World) (hg : Good w) (ha : a.length ≤ 140737488355328) (hb : b.length ≤ 140737488355328) : Calls Tryz.prog 12 #[.string ⟨a.toArray⟩, .string ⟨b.toArray⟩] w (Ret w (ans2 (bin2 quo2 a b))) := by
  have hp := parted_c a b w hg ha hb
  have hB0 := Below.refl w.heap.size w
  rcases bin3_cases a b with ⟨c, hc, e1, e2, e3⟩ | ⟨q, r, hq, e1, e2, e3⟩
  · rw [e1] at hp; rw [e2]
    have HP := Lib.hid hp
    have h2 := bne_ne hc
    clear hp e1 e2 e3 hg ha hb
    go_enter Tryz.func12, Tryz.ntmps12
    go_wp2_with fail
    refine (HP.out).mono ?_; rintro e w1 ⟨rfl, hb1⟩
    have hB1 := hB0.trans (hb1.mono hB0.size); clear hb1
    go_wp2
    go_ret2
    exact ⟨rfl, hB1⟩
  · rw [e1] at hp; rw [e2]
    have hck := wCheck_c (Lib.itoa q)
    rw [chk_ok hq] at hck
    have HC := Lib.hid hck
    have hl := lng_txt hq
    have HP := Lib.hid hp
    clear hp e1 e2 e3 hg ha hb hck
    go_enter Tryz.func12, Tryz.ntmps12
    go_wp2_with fail
    refine (HP.out).mono ?_; rintro e w1 ⟨rfl, hb1⟩
    have hB1 := hB0.trans (hb1.mono hB0.size); clear hb1
    go_wp2_with fail
    refine (HC.out _ hl).mono ?_; rintro e w2 ⟨rfl, hb2⟩
    have hB2 := hB1.trans (hb2.mono hB1.size); clear hb2
    go_wp2
    go_ret2
    exact ⟨rfl, hB2⟩

set_option maxRecDepth 100000 in
set_option maxHeartbeats 1000000 in
theorem wRem_c (a b : List UInt8) (w : World) (hg : Good w) (ha : a.length ≤ 140737488355328) (hb : b.length ≤ 140737488355328) : Calls Tryz.prog 13 #[.string ⟨a.toArray⟩, .string ⟨b.toArray⟩] w (Ret w (ans2 (bin2 rem2 a b))) := by
  have hp := parted_c a b w hg ha hb
  have hB0 := Below.refl w.heap.size w
  rcases bin3_cases a b with ⟨c, hc, e1, e2, e3⟩ | ⟨q, r, hq, e1, e2, e3⟩
  all_goals
    rw [e1] at hp; rw [e3]
    have HP := Lib.hid hp
    clear hp e1 e2 e3 hg ha hb
    go_enter Tryz.func13, Tryz.ntmps13
    go_wp2_with fail
    refine (HP.out).mono ?_; rintro e w1 ⟨rfl, hb1⟩
    have hB1 := hB0.trans (hb1.mono hB0.size); clear hb1
    go_wp2
    go_ret2
    exact ⟨rfl, hB1⟩

/-- The int of a text, or an error. -/
def inR (n : Int) : Prop := -9223372036854775808 ≤ n ∧ n ≤ 9223372036854775807
instance (n : Int) : Decidable (inR n) := inferInstanceAs (Decidable (_ ∧ _))
def small2 (n : Int) : Int × Int := if inR n then (n, 0) else (0, 2)
def un2 (f : Int → Int × Int) (a : Txt) : Int × Int := if chk a = 0 then f (val a) else (0, chk a)
theorem un2_itoa (f : Int → Int × Int) {m : Int} (hm : m.natAbs < big) : un2 f (Lib.itoa m) = f m := by unfold un2; rw [if_pos (chk_ok hm), val_itoa]
def bin2i (f : Int → Int → Int × Int) (a b : Txt) : Int × Int := if both a b = 0 then f (val a) (val b) else (0, both a b)
theorem bin2i_itoa (f : Int → Int → Int × Int) {m n : Int} (hm : m.natAbs < big) (hn : n.natAbs < big) : bin2i f (Lib.itoa m) (Lib.itoa n) = f m n := by unfold bin2i; rw [if_pos (both_ok hm hn), val_itoa, val_itoa]
abbrev int2 (r : Int × Int) : Value := .tuple #[.int .i64 r.1, .int .i64 r.2]

set_option maxRecDepth 100000 in
set_option maxHeartbeats 1000000 in
theorem wSmall_c (a : List UInt8) (w : World) (hg : Good w) (ha : a.length ≤ 140737488355328) : Calls Tryz.prog 24 #[.string ⟨a.toArray⟩] w (Ret w (int2 (un2 small2 a))) := by
  revert ha
  have hB0 := Below.refl w.heap.size w
  refine un_cases (P := fun a => a.length ≤ 140737488355328 → Calls Tryz.prog 24 #[.string ⟨a.toArray⟩] w (Ret w (int2 (un2 small2 a)))) a ?_ ?_
  · intro h ha
    have HC := Lib.hid (fun W => wCheck_c a W ha)
    rw [show un2 small2 a = (0, chk a) by unfold un2; rw [if_neg h]]
    generalize chk a = x at *
    have h2 := bne_ne h
    go_enter Tryz.func24, Tryz.ntmps24
    go_wp2_with fail
    refine (HC.out _).mono ?_; rintro e w1 ⟨rfl, hb1⟩
    have hB1 := hB0.trans (hb1.mono hB0.size); clear hb1
    go_wp2
    go_ret2
    exact ⟨rfl, hB1⟩
  · intro m hm ha
    have HC := Lib.hid (fun W => wCheck_c (Lib.itoa m) W ha)
    rw [chk_ok hm] at HC
    rw [un2_itoa _ hm]
    have HG := Lib.hid hg
    by_cases hr : inR m
    · have HA := Lib.hid (fun W => Atoi_ok (Lib.itoa m) m W ha (atoi_itoa m hr.1 hr.2))
      rw [show small2 m = (m, 0) by unfold small2; rw [if_pos hr]]
      clear hr hm ha hg
      go_enter Tryz.func24, Tryz.ntmps24
      go_wp2_with fail
      refine (HC.out _).mono ?_; rintro e w1 ⟨rfl, hb1⟩
      have hB1 := hB0.trans (hb1.mono hB0.size); clear hb1
      go_wp2_with fail
      refine (HA.out _).mono ?_; rintro e w2 ⟨rfl, hb2⟩
      have hB2 := hB1.trans (hb2.mono hB1.size); clear hb2
      go_wp2
      go_ret2
      exact ⟨rfl, hB2⟩
    · have HA := Lib.hid (fun W hW => Atoi_err (Lib.itoa m) W hW ha (atoi_range m hr))
      rw [show small2 m = (0, 2) by unfold small2; rw [if_neg hr]]
      clear hr hm ha hg
      go_enter Tryz.func24, Tryz.ntmps24
      go_wp2_with fail
      refine (HC.out _).mono ?_; rintro e w1 ⟨rfl, hb1⟩
      have hB1 := hB0.trans (hb1.mono hB0.size); clear hb1
      go_wp2_with fail
      refine (HA.out _ (HG.out.later hB1)).mono ?_
      rintro e w2 ⟨k, t, p, rfl, hb2⟩
      have hB2 := hB1.trans (hb2.mono hB1.size)
      go_wp2
      go_ret2
      exact ⟨rfl, hB2⟩

set_option maxRecDepth 100000 in
set_option maxHeartbeats 1000000 in
theorem wSign_c (a : List UInt8) (w : World) (ha : a.length ≤ 140737488355328) : Calls Tryz.prog 26 #[.string ⟨a.toArray⟩] w (Ret w (int2 (un2 (fun n => (sgn n, 0)) a))) := by
  revert ha
  have hB0 := Below.refl w.heap.size w
  refine un_cases (P := fun a => a.length ≤ 140737488355328 → Calls Tryz.prog 26 #[.string ⟨a.toArray⟩] w (Ret w (int2 (un2 (fun n => (sgn n, 0)) a)))) a ?_ ?_
  · intro h ha
    have HC := Lib.hid (fun W => wCheck_c a W ha)
    rw [show un2 (fun n => (sgn n, 0)) a = (0, chk a) by unfold un2; rw [if_neg h]]
    generalize chk a = x at *
    have h2 := bne_ne h
    go_enter Tryz.func26, Tryz.ntmps26
    go_wp2_with fail
    refine (HC.out _).mono ?_; rintro e w1 ⟨rfl, hb1⟩
    have hB1 := hB0.trans (hb1.mono hB0.size); clear hb1
    go_wp2
    go_ret2
    exact ⟨rfl, hB1⟩
  · intro m hm ha
    have HC := Lib.hid (fun W => wCheck_c (Lib.itoa m) W ha)
    rw [chk_ok hm] at HC
    rw [un2_itoa _ hm]
    clear hm ha
    go_enter Tryz.func26, Tryz.ntmps26
    go_wp2_with fail
    refine (HC.out _).mono ?_; rintro e w1 ⟨rfl, hb1⟩
    have hB1 := hB0.trans (hb1.mono hB0.size); clear hb1
    go_wp2_with fail
    refine (sign_c m _).mono ?_; rintro e w' ⟨rfl, rfl⟩
    go_wp2
    go_ret2
    exact ⟨rfl, hB1⟩

theorem cmp_spec (m n : Int) : (m < n ∧ cmp m n = -1) ∨ (m = n ∧ cmp m n = 0) ∨ (n < m ∧ cmp m n = 1) := by
  unfold cmp
  rcases Int.lt_trichotomy m n with h | h | h
  · exact .inl ⟨h, if_pos h⟩
  · exact .inr (.inl ⟨h, by rw [if_neg (by omega), if_neg (by omega)]⟩)
  · exact .inr (.inr ⟨h, by rw [if_neg (by omega), if_pos h]⟩)
theorem cmp_len {m n : Int} (h : sgn m = sgn n) : sgn m * cmp m.natAbs n.natAbs = cmp m n := by
  have A := cmp_spec m 0
  have B := cmp_spec n 0
  have C := cmp_spec m n
  have D := cmp_spec m.natAbs n.natAbs
  unfold sgn at *
  generalize cmp m 0 = x at *
  generalize cmp n 0 = y at *
  generalize cmp m n = c at *
  generalize cmp (m.natAbs : Int) n.natAbs = d at *
  subst h
  rcases A with ⟨_, rfl⟩ | ⟨_, rfl⟩ | ⟨_, rfl⟩ <;> omega
theorem cmp_sgn (m n : Int) : cmp m n = if sgn m < sgn n then -1 else if sgn n < sgn m then 1 else cmp m n := by
  have A := cmp_spec m 0
  have B := cmp_spec n 0
  have C := cmp_spec m n
  unfold sgn at *
  generalize cmp m 0 = x at *
  generalize cmp n 0 = y at *
  generalize cmp m n = c at *
  split
  · omega
  · split <;> omega

set_option maxRecDepth 100000 in
set_option maxHeartbeats 1000000 in
theorem wCompare_c (a b : List UInt8) (w : World) (ha : a.length ≤ 140737488355328) (hb : b.length ≤ 140737488355328) : Calls Tryz.prog 38 #[.string ⟨a.toArray⟩, .string ⟨b.toArray⟩] w (Ret w (int2 (bin2i (fun m n => (cmp m n, 0)) a b))) := by
  revert ha hb
  refine bin_cases (P := fun a b => a.length ≤ 140737488355328 → b.length ≤ 140737488355328 → Calls Tryz.prog 38 #[.string ⟨a.toArray⟩, .string ⟨b.toArray⟩] w (Ret w (int2 (bin2i (fun m n => (cmp m n, 0)) a b)))) a b ?_ ?_
  · intro h ha hb
    have HB := Lib.hid (fun t => allz a b w ha hb t)
    rw [show bin2i (fun m n => (cmp m n, 0)) a b = (0, both a b) by unfold bin2i; rw [if_neg h]]
    generalize both a b = x at *
    have h2 := bne_ne h
    go_enter Tryz.func38, Tryz.ntmps38
    go_wp2_with fail
    refine (HB.out _).mono ?_; rintro e w1 ⟨rfl, hb1⟩
    go_wp2
    go_ret2
    exact ⟨rfl, hb1⟩
  · intro m n hm hn ha hb
    have HB := Lib.hid (fun t => allz (Lib.itoa m) (Lib.itoa n) w ha hb t)
    rw [both_ok hm hn] at HB
    rw [bin2i_itoa _ hm hn]
    have hT1 := Lib.hid (fun W => TrimPrefix_c (Lib.itoa m) W)
    have hT2 := Lib.hid (fun W => TrimPrefix_c (Lib.itoa n) W)
    rw [body_itoa] at hT1 hT2
    have hs1 := Lib.hid (fun W => sign_c m W)
    have hs2 := Lib.hid (fun W => sign_c n W)
    have hl := @cmp_len m n
    have h3 := cmp_sgn m n
    obtain ⟨x, hx⟩ : ∃ x, sgn m = x := ⟨_, rfl⟩
    obtain ⟨y, hy⟩ : ∃ y, sgn n = y := ⟨_, rfl⟩
    obtain ⟨c, hc⟩ : ∃ c, cmp m n = c := ⟨_, rfl⟩
    obtain ⟨d, hd⟩ : ∃ d, cmp (m.natAbs : Int) n.natAbs = d := ⟨_, rfl⟩
    have hxb : -1 ≤ x ∧ x ≤ 1 := by rw [← hx]; unfold sgn cmp; split <;> (try split) <;> omega
    have hdb : -1 ≤ d ∧ d ≤ 1 := by rw [← hd]; unfold cmp; split <;> (try split) <;> omega
    have ho := Lib.hid (fun W => order_c m.natAbs n.natAbs W)
    rw [hx] at hs1 hl h3
    rw [hy] at hs2 hl h3
    rw [hc] at hl h3 ⊢
    rw [hd] at hl ho
    obtain ⟨hx0, hx1⟩ := hxb
    obtain ⟨hd0, hd1⟩ := hdb
    clear hx hy hc hd ha hb hm hn
    by_cases hlt : x < y
    · rw [if_pos hlt] at h3
      subst h3
      clear hl
      go_enter Tryz.func38, Tryz.ntmps38
      go_wp2_with fail
      refine (HB.out _).mono ?_; rintro e w1 ⟨rfl, hb1⟩
      go_wp2_with fail
      refine (hs1.out _).mono ?_; rintro e w' ⟨rfl, rfl⟩
      go_wp2_with fail
      refine (hs2.out _).mono ?_; rintro e w' ⟨rfl, rfl⟩
      go_wp2
      go_ret2
      exact ⟨rfl, hb1⟩
    · rw [if_neg hlt] at h3
      by_cases hgt : y < x
      · rw [if_pos hgt] at h3
        subst h3
        clear hl
        go_enter Tryz.func38, Tryz.ntmps38
        go_wp2_with fail
        refine (HB.out _).mono ?_; rintro e w1 ⟨rfl, hb1⟩
        go_wp2_with fail
        refine (hs1.out _).mono ?_; rintro e w' ⟨rfl, rfl⟩
        go_wp2_with fail
        refine (hs2.out _).mono ?_; rintro e w' ⟨rfl, rfl⟩
        go_wp2_with fail
        refine (hs2.out _).mono ?_; rintro e w' ⟨rfl, rfl⟩
        go_wp2
        go_ret2
        exact ⟨rfl, hb1⟩
      · have hxy : x = y := by omega
        subst hxy
        have HL := Lib.hid (hl rfl)
        have hp : -1 ≤ x * d ∧ x * d ≤ 1 := by
          have e1 : x = -1 ∨ x = 0 ∨ x = 1 := by omega
          rcases e1 with rfl | rfl | rfl <;> omega
        obtain ⟨hp0, hp1⟩ := hp
        clear hl h3 hlt hgt
        have hxx : ¬ x < x := by omega
        go_enter Tryz.func38, Tryz.ntmps38
        go_wp2_with fail
        refine (HB.out _).mono ?_; rintro e w1 ⟨rfl, hb1⟩
        go_wp2_with fail
        refine (hs1.out _).mono ?_; rintro e w' ⟨rfl, rfl⟩
        go_wp2_with fail
        refine (hs2.out _).mono ?_; rintro e w' ⟨rfl, rfl⟩
        go_wp2_with fail
        refine (hs2.out _).mono ?_; rintro e w' ⟨rfl, rfl⟩
        go_wp2_with fail
        refine (hT1.out _).mono ?_; rintro e w' ⟨rfl, rfl⟩
        go_wp2_with fail
        refine (hT2.out _).mono ?_; rintro e w' ⟨rfl, rfl⟩
        go_wp2_with fail
        refine (ho.out _).mono ?_; rintro e w' ⟨rfl, rfl⟩
        go_wp2
        go_ret2
        rw [← HL.out]
        exact ⟨rfl, hb1⟩
end Go.Proofs.Wk
