/- THE PROGRAM's RATIONAL NUMBERS: the sign of a sum with two square roots. -/
import Derived.Test.YtenoganbeccanaaGreatDoorRtJ
namespace Go.Proofs.Wk
open Go.RowKit Mt

theorem rtoa_cons (c : Rat) : ∃ h t, rtoa c = h :: t ∧ (c < 0 → h = 45) ∧ (¬ c < 0 → h ≠ 45) := by
  have h1 := pre_itoa c.num
  obtain ⟨h, t, e⟩ : ∃ h t, Lib.itoa c.num = h :: t := List.exists_cons_of_ne_nil (itoa_ne_nil _)
  have h2 : (45 == h) = decide (c.num < 0) := by rw [← h1, e]; simp [List.isPrefixOf]
  have h3 : ∃ t', rtoa c = h :: t' := by
    unfold rtoa
    split
    · exact ⟨t, e⟩
    · exact ⟨t ++ 47 :: Lib.itoa (c.den : Int), by rw [e]; rfl⟩
  obtain ⟨t', e'⟩ := h3
  refine ⟨h, t', e', fun hc => ?_, fun hc => ?_⟩
  · rw [lt_zero_iff] at hc
    rw [decide_eq_true hc, beq_iff_eq] at h2
    exact h2.symm
  · rw [lt_zero_iff] at hc
    rw [decide_eq_false hc, beq_eq_false_iff_ne] at h2
    exact fun e => h2 e.symm
theorem SlS.five (w : World) (a b c d e : Txt) (t : TypeId) : SlS (w.alloc (.cells #[.string ⟨a.toArray⟩, .string ⟨b.toArray⟩, .string ⟨c.toArray⟩, .string ⟨d.toArray⟩, .string ⟨e.toArray⟩] t)) (.slice (some ⟨w.heap.size, 0, none⟩) 5 5) [a, b, c, d, e] :=
  .inr ⟨w.heap.size, 0, 5, rfl, RS.lit w [a, b, c, d, e] t, alloc_lt w _⟩
set_option maxRecDepth 100000 in
theorem qSignRoots_err (a b c d e : Txt) (w : World) (hg : Good w) (hl : ∀ l ∈ [a, b, c, d, e], l.length ≤ 140737488355328) (h : firstR [a, b, c, d, e] ≠ 0) :
    Calls Tryz.prog 66 #[.string ⟨a.toArray⟩, .string ⟨b.toArray⟩, .string ⟨c.toArray⟩, .string ⟨d.toArray⟩, .string ⟨e.toArray⟩] w (Ret w (int2 (0, firstR [a, b, c, d, e]))) := by
  have HG := Lib.hid hg
  have HK := Lib.hid (fun W hW hS => checks_c (v := .slice (some ⟨w.heap.size, 0, none⟩) 5 5) [a, b, c, d, e] W hW hS (by simp) hl)
  have h3 := bne_ne h
  clear hl h hg
  generalize firstR [a, b, c, d, e] = x at *
  go_enter Tryz.func66, Tryz.ntmps66
  go_wp2_with fail
  ((with_reducible refine (HK.out _ (HG.out.later ((Below.refl _ _).alloc (Nat.le_refl _) _)) (SlS.five w _ _ _ _ _ _)).mono ?_); rintro e w1 ⟨rfl, hb1⟩)
  have hB1 : Below w.heap.size w w1 := ((Below.refl w.heap.size w).alloc (Nat.le_refl _) _).trans (hb1.mono (Nat.le_of_lt (alloc_lt w _)))
  go_wp2
  go_ret2
  exact ⟨rfl, hB1⟩
theorem lng_scX {a b c d e : Rat} (ha : szQ a 30) (hb : szQ b 30) (hc : szQ c 30) (hd : szQ d 30) (he : szQ e 30) : lng (scX a b c d e) ≤ 150 := by
  unfold scX
  have := lng_mul _ _ (lng_mul _ _ (lng_mul _ _ (lng_mul _ _ ha.1 hb.2) hc.2) hd.2) he.2; omega
theorem lng_scY {a b d e : Rat} (ha : szQ a 30) (hb : szQ b 30) (hd : szQ d 30) (he : szQ e 30) : lng (scY a b d e) ≤ 120 := by
  unfold scY
  have := lng_mul _ _ (lng_mul _ _ (lng_mul _ _ hb.1 ha.2) hd.2) he.2; omega
theorem lng_scR {c : Rat} (hc : szQ c 30) : lng (scR c) ≤ 60 := by
  unfold scR; have := lng_mul _ _ hc.1 hc.2; omega
theorem lng_scZ {a b c d : Rat} (ha : szQ a 30) (hb : szQ b 30) (hc : szQ c 30) (hd : szQ d 30) : lng (scZ a b c d) ≤ 120 := by
  unfold scZ
  have := lng_mul _ _ (lng_mul _ _ (lng_mul _ _ hd.1 ha.2) hb.2) hc.2; omega
theorem itoa_two : Lib.itoa 2 = [50] := itoa_val (l := [50]) (by decide)
theorem size_new' (w : World) : (w.alloc (.cells #[.int .i64 0] 133)).heap.size = w.heap.size + 1 := by simp
set_option maxRecDepth 100000 in
set_option maxHeartbeats 4000000 in
theorem qSignRoots_ok (a b c d e : Rat) (w : World) (hg : Good w) (ha : szQ a 30) (hb : szQ b 30) (hc : szQ c 30) (hd : szQ d 30) (he : szQ e 30) :
    Calls Tryz.prog 66 #[.string ⟨(rtoa a).toArray⟩, .string ⟨(rtoa b).toArray⟩, .string ⟨(rtoa c).toArray⟩, .string ⟨(rtoa d).toArray⟩, .string ⟨(rtoa e).toArray⟩] w (Ret w (int2 (if c < 0 ∨ e < 0 then (0, 2) else (rootsQ a b c d e, 0)))) := by
  have HG := Lib.hid hg
  have hok : ∀ x ∈ [a, b, c, d, e], okQ x := by intro x hx; simp at hx; rcases hx with rfl | rfl | rfl | rfl | rfl <;> first | exact ha.ok (by omega) | exact hb.ok (by omega) | exact hc.ok (by omega) | exact hd.ok (by omega) | exact he.ok (by omega)
  have hx : firstR [rtoa a, rtoa b, rtoa c, rtoa d, rtoa e] = 0 := firstR_ok (qs := [a, b, c, d, e]) hok
  have hk := fun W hW hS => checks_c (v := .slice (some ⟨w.heap.size, 0, none⟩) 5 5) [rtoa a, rtoa b, rtoa c, rtoa d, rtoa e] W hW hS (by simp) (by
    intro l h
    obtain ⟨x, hx, rfl⟩ := List.mem_map.1 (show l ∈ [a, b, c, d, e].map rtoa from h)
    exact tlen (hok x hx))
  rw [hx] at hk
  have CA := Lib.hid (fun W => cut_q a W (ha.ok (by omega)))
  have CB := Lib.hid (fun W => cut_q b W (hb.ok (by omega)))
  have cc := fun W => cut_q c W (hc.ok (by omega))
  have CD := Lib.hid (fun W => cut_q d W (hd.ok (by omega)))
  have ce := fun W => cut_q e W (he.ok (by omega))
  have lX := lng_scX ha hb hc hd he; have lY := lng_scY ha hb hd he; have lR := lng_scR hc; have lZ := lng_scZ ha hb hc hd; have lT := lng_scR he
  have M1 := Lib.hid (fun g W S N hN => mulT [a.num, (b.den : Int), (c.den : Int), (d.den : Int), (e.den : Int)] 30 (scX a b c d e) #[.string ⟨(Lib.itoa a.num).toArray⟩, .string ⟨(Lib.itoa (b.den : Int)).toArray⟩, .string ⟨(Lib.itoa (c.den : Int)).toArray⟩, .string ⟨(Lib.itoa (d.den : Int)).toArray⟩, .string ⟨(Lib.itoa (e.den : Int)).toArray⟩] 5 g W W N 97 S hN rfl rfl (by omega)
    (by intro n hn; simp at hn; rcases hn with rfl | rfl | rfl | rfl | rfl <;> first | exact ha.1 | exact hb.2 | exact hc.2 | exact hd.2 | exact he.2) (by omega) (fold5 _ _ _ _ _))
  have M2 := Lib.hid (fun g w0 W S => mulT [b.num, (a.den : Int), (d.den : Int), (e.den : Int)] 30 (scY a b d e) #[.string ⟨(Lib.itoa b.num).toArray⟩, .string ⟨(Lib.itoa (a.den : Int)).toArray⟩, .string ⟨(Lib.itoa (d.den : Int)).toArray⟩, .string ⟨(Lib.itoa (e.den : Int)).toArray⟩] 4 g w0 W _ 97 S rfl rfl rfl (by omega)
    (by intro n hn; simp at hn; rcases hn with rfl | rfl | rfl | rfl <;> first | exact hb.1 | exact ha.2 | exact hd.2 | exact he.2) (by omega) (fold4 _ _ _ _))
  have M3 := Lib.hid (fun g w0 W S => mulT [c.num, (c.den : Int)] 30 (scR c) #[.string ⟨(Lib.itoa c.num).toArray⟩, .string ⟨(Lib.itoa (c.den : Int)).toArray⟩] 2 g w0 W _ 97 S rfl rfl rfl (by omega)
    (by intro n hn; simp at hn; rcases hn with rfl | rfl <;> first | exact hc.1 | exact hc.2) (by omega) (fold2 _ _))
  have M4 := Lib.hid (fun g w0 W S => mulT [d.num, (a.den : Int), (b.den : Int), (c.den : Int)] 30 (scZ a b c d) #[.string ⟨(Lib.itoa d.num).toArray⟩, .string ⟨(Lib.itoa (a.den : Int)).toArray⟩, .string ⟨(Lib.itoa (b.den : Int)).toArray⟩, .string ⟨(Lib.itoa (c.den : Int)).toArray⟩] 4 g w0 W _ 97 S rfl rfl rfl (by omega)
    (by intro n hn; simp at hn; rcases hn with rfl | rfl | rfl | rfl <;> first | exact hd.1 | exact ha.2 | exact hb.2 | exact hc.2) (by omega) (fold4 _ _ _ _))
  have M5 := Lib.hid (fun g w0 W S => mulT [e.num, (e.den : Int)] 30 (scR e) #[.string ⟨(Lib.itoa e.num).toArray⟩, .string ⟨(Lib.itoa (e.den : Int)).toArray⟩] 2 g w0 W _ 97 S rfl rfl rfl (by omega)
    (by intro n hn; simp at hn; rcases hn with rfl | rfl <;> first | exact he.1 | exact he.2) (by omega) (fold2 _ _))
  rw [← (roots_same a b c d e).1]
  clear ha hb hc hd he hok hx hg
  generalize scX a b c d e = x at *
  generalize scY a b d e = y at *
  generalize scR c = r at *
  generalize scZ a b c d = z at *
  generalize scR e = t at *
  have R1 := Lib.hid (fun g w0 W S => rootL x y r g w0 W S (by omega) (by omega) (by omega))
  have G1 := Lib.hid (fun g w0 W S => sgnL z g w0 W S (by omega))
  have G2 := Lib.hid (fun g w0 W S => sgnL t g w0 W S (by omega))
  have l1 : lng (x * x) ≤ 300 := by have := lng_mul x x lX lX; omega
  have l2 : lng (y * y * r) ≤ 300 := by have := lng_mul (y * y) r (lng_mul y y lY lY) lR; omega
  have l3 : lng (z * z * t) ≤ 301 := by have := lng_mul (z * z) t (lng_mul z z lZ lZ) lT; omega
  have l4 := lng_add (x * x) (y * y * r) l1 l2
  have l5 := lng_subk l4 l3
  have l6 : lng (2 * x * y) ≤ 271 := by have := lng_mul (2 * x) y (lng_mul 2 x ((lng_le 2 (k := 1) (by omega)).2 (by decide)) lX) lY; omega
  have N1 := Lib.hid (fun g w0 W S => mulT [x, x] 150 (x * x) #[.string ⟨(Lib.itoa x).toArray⟩, .string ⟨(Lib.itoa x).toArray⟩] 2 g w0 W _ 97 S rfl rfl rfl (by omega) (by intro n hn; simp at hn; subst hn; exact lX) (by omega) (fold2 _ _))
  have N2 := Lib.hid (fun g w0 W S => mulT [y, y, r] 120 (y * y * r) #[.string ⟨(Lib.itoa y).toArray⟩, .string ⟨(Lib.itoa y).toArray⟩, .string ⟨(Lib.itoa r).toArray⟩] 3 g w0 W _ 97 S rfl rfl rfl (by omega) (by intro n hn; simp at hn; rcases hn with rfl | rfl <;> omega) (by omega) (fold3 _ _ _))
  have N3 := Lib.hid (fun g w0 W S => addT (x * x) (y * y * r) _ 300 g w0 W S l1 l2 (by omega) rfl)
  have N4 := Lib.hid (fun g w0 W S => mulT [z, z, t] 120 (z * z * t) #[.string ⟨(Lib.itoa z).toArray⟩, .string ⟨(Lib.itoa z).toArray⟩, .string ⟨(Lib.itoa t).toArray⟩] 3 g w0 W _ 97 S rfl rfl rfl (by omega) (by intro n hn; simp at hn; rcases hn with rfl | rfl <;> omega) (by omega) (fold3 _ _ _))
  have N5 := Lib.hid (fun g w0 W S => subT (x * x + y * y * r) (z * z * t) _ 301 g w0 W S l4 l3 (by omega) rfl)
  have N6 := Lib.hid (fun g w0 W S => mulT [2, x, y] 150 (2 * x * y) #[.string ⟨#[50]⟩, .string ⟨(Lib.itoa x).toArray⟩, .string ⟨(Lib.itoa y).toArray⟩] 3 g w0 W _ 97 S rfl (by simp only [List.map_cons, List.map_nil, itoa_two]) rfl (by omega) (by intro n hn; simp at hn; rcases hn with rfl | rfl | rfl; exact Nat.le_trans ((lng_le 2 (k := 1) (by omega)).2 (by decide)) (by omega); omega; omega) (by omega) (fold3 _ _ _))
  have R2 := Lib.hid (fun g w0 W S => rootL (x * x + y * y * r - z * z * t) (2 * x * y) r g w0 W S l5 l6 lR)
  unfold rootsI
  have b1 := rootI_bd x y r; have b2 := mul_bd2 (sgn_bd z) (sgn_bd t); have b3 := mul_bd2 b1 b2; have b4 := mul_bd2 b1 (rootI_bd (x * x + y * y * r - z * z * t) (2 * x * y) r)
  have k1 : IntKind.i64.wrap (sgn z * sgn t) = sgn z * sgn t := IntWalk.i64_in _ (by omega)
  have k2 : IntKind.i64.wrap (rootI x y r * (sgn z * sgn t)) = rootI x y r * (sgn z * sgn t) := IntWalk.i64_in _ (by omega)
  have k3 : IntKind.i64.wrap (rootI x y r * rootI (x * x + y * y * r - z * z * t) (2 * x * y) r) = rootI x y r * rootI (x * x + y * y * r - z * z * t) (2 * x * y) r := IntWalk.i64_in _ (by omega)
  clear l1 l2 l3 l4 l5 l6 lX lY lR lZ lT b1 b2 b3 b4
  obtain ⟨hc1, tc1, ec, cy, cn⟩ := rtoa_cons c
  obtain ⟨he1, te1, ee, ey, en⟩ := rtoa_cons e
  rw [ec, ee] at hk
  rw [ec] at cc; rw [ee] at ce
  rw [ec, ee]
  have HK := Lib.hid hk; have CC := Lib.hid cc; have CE := Lib.hid ce
  clear hk cc ce ec ee
  generalize rootI (x * x + y * y * r - z * z * t) (2 * x * y) r = s5 at *
  generalize rootI x y r = s1 at *
  generalize sgn z = s2 at *
  generalize sgn t = s3 at *
  generalize Lib.itoa (x * x + y * y * r - z * z * t) = u1 at *
  generalize Lib.itoa (x * x + y * y * r) = u2 at *
  generalize Lib.itoa (x * x) = u3 at *
  generalize Lib.itoa (y * y * r) = u4 at *
  generalize Lib.itoa (z * z * t) = u5 at *
  generalize Lib.itoa (2 * x * y) = u6 at *
  generalize Lib.itoa x = tx at *
  generalize Lib.itoa y = ty at *
  generalize Lib.itoa r = tr at *
  generalize Lib.itoa z = tz at *
  generalize Lib.itoa t = tt at *
  generalize Lib.itoa a.num = v1 at *
  generalize Lib.itoa (a.den : Int) = v2 at *
  generalize Lib.itoa b.num = v3 at *
  generalize Lib.itoa (b.den : Int) = v4 at *
  generalize Lib.itoa c.num = v5 at *
  generalize Lib.itoa (c.den : Int) = v6 at *
  generalize Lib.itoa d.num = v7 at *
  generalize Lib.itoa (d.den : Int) = v8 at *
  generalize Lib.itoa e.num = v9 at *
  generalize Lib.itoa (e.den : Int) = v10 at *
  generalize rhas (rtoa a) = o1 at *
  generalize rhas (rtoa b) = o2 at *
  generalize rhas (hc1 :: tc1) = o3 at *
  generalize rhas (rtoa d) = o4 at *
  generalize rhas (he1 :: te1) = o5 at *
  generalize rtoa a = ta at *
  generalize rtoa b = tb at *
  generalize rtoa d = td at *
  obtain ⟨s23, q1⟩ : ∃ v, s2 * s3 = v := ⟨_, rfl⟩
  have j1 := k1.trans q1
  rw [q1] at k2 ⊢
  clear k1 q1
  obtain ⟨s123, q2⟩ : ∃ v, s1 * s23 = v := ⟨_, rfl⟩
  have j2 := k2.trans q2
  rw [q2]
  clear k2 q2
  obtain ⟨s15, q3⟩ : ∃ v, s1 * s5 = v := ⟨_, rfl⟩
  have j3 := k3.trans q3
  rw [q3]
  clear k3 q3
  by_cases h1 : c < 0
  · rw [if_pos (.inl h1)]
    have hb := u8_eq_yes (d := 45) (k := 45) rfl (cy h1)
    clear cy cn ey en h1 j1 j2 j3 CA CB CC CD CE M1 M2 M3 M4 M5 N1 N2 N3 N4 N5 N6 R1 R2 G1 G2
    go_enter Tryz.func66, Tryz.ntmps66
    go_wp2_with fail
    ((with_reducible refine (HK.out _ (HG.out.later ((Below.refl _ _).alloc (Nat.le_refl _) _)) (SlS.five w _ _ _ _ _ _)).mono ?_); rintro e w1 ⟨rfl, hb1⟩)
    have hB1 : Below w.heap.size w w1 := ((Below.refl w.heap.size w).alloc (Nat.le_refl _) _).trans (hb1.mono (Nat.le_of_lt (alloc_lt w _)))
    clear hb1
    go_wp2
    go_ret2
    exact ⟨rfl, hB1⟩
  · have hb := u8_eq_no (d := 45) (k := 45) rfl (cn h1)
    by_cases h2 : e < 0
    · rw [if_pos (.inr h2)]
      have hb2 := u8_eq_yes (d := 45) (k := 45) rfl (ey h2)
      clear cy cn ey en h1 h2 j1 j2 j3 CA CB CC CD CE M1 M2 M3 M4 M5 N1 N2 N3 N4 N5 N6 R1 R2 G1 G2
      go_enter Tryz.func66, Tryz.ntmps66
      go_wp2_with fail
      ((with_reducible refine (HK.out _ (HG.out.later ((Below.refl _ _).alloc (Nat.le_refl _) _)) (SlS.five w _ _ _ _ _ _)).mono ?_); rintro e w1 ⟨rfl, hb1⟩)
      have hB1 : Below w.heap.size w w1 := ((Below.refl w.heap.size w).alloc (Nat.le_refl _) _).trans (hb1.mono (Nat.le_of_lt (alloc_lt w _)))
      clear hb1
      go_wp2
      go_ret2
      exact ⟨rfl, hB1⟩
    · rw [if_neg (by rintro (h | h); exact h1 h; exact h2 h)]
      have hb2 := u8_eq_no (d := 45) (k := 45) rfl (en h2)
      clear cy cn ey en h1 h2
      by_cases h1 : s123 ≥ 0
      · rw [if_pos h1]
        by_cases h2 : s1 = 0
        · rw [if_pos h2]
          subst h2
          clear j3 N1 N2 N3 N4 N5 N6 R2
          go_enter Tryz.func66, Tryz.ntmps66
          go_wp2_with fail
          ((with_reducible refine (HK.out _ (HG.out.later ((Below.refl _ _).alloc (Nat.le_refl _) _)) (SlS.five w _ _ _ _ _ _)).mono ?_); rintro e w1 ⟨rfl, hb1⟩)
          have hB1 : Below w.heap.size w w1 := ((Below.refl w.heap.size w).alloc (Nat.le_refl _) _).trans (hb1.mono (Nat.le_of_lt (alloc_lt w _)))
          clear hb1
          go_wp2_with fail
          ((with_reducible refine (CA.out _).mono ?_); rintro e w2 ⟨rfl, hb2⟩)
          have hB2 := hB1.trans (hb2.mono hB1.size); clear hb2
          go_wp2_with fail
          ((with_reducible refine (CB.out _).mono ?_); rintro e w3 ⟨rfl, hb3⟩)
          have hB3 := hB2.trans (hb3.mono hB2.size); clear hb3
          go_wp2_with fail
          ((with_reducible refine (CC.out _).mono ?_); rintro e w4 ⟨rfl, hb4⟩)
          have hB4 := hB3.trans (hb4.mono hB3.size); clear hb4
          go_wp2_with fail
          ((with_reducible refine (CD.out _).mono ?_); rintro e w5 ⟨rfl, hb5⟩)
          have hB5 := hB4.trans (hb5.mono hB4.size); clear hb5
          go_wp2_with fail
          ((with_reducible refine (CE.out _).mono ?_); rintro e w6 ⟨rfl, hb6⟩)
          have hB6 := hB5.trans (hb6.mono hB5.size); clear hb6
          have S7 := Sv.new w6 (HG.out.later hB6)
          go_wp2_with fail
          ((with_reducible refine (M1.out _ _ S7 _ (size_new' w6)).mono ?_); rintro e w8 ⟨rfl, S8⟩)
          go_wp2_with fail
          ((with_reducible refine (M2.out _ _ _ S8).mono ?_); rintro e w9 ⟨rfl, S9⟩)
          go_wp2_with fail
          ((with_reducible refine (M3.out _ _ _ S9).mono ?_); rintro e w10 ⟨rfl, S10⟩)
          go_wp2_with fail
          ((with_reducible refine (M4.out _ _ _ S10).mono ?_); rintro e w11 ⟨rfl, S11⟩)
          go_wp2_with fail
          ((with_reducible refine (M5.out _ _ _ S11).mono ?_); rintro e w12 ⟨rfl, S12⟩)
          go_wp2_with fail
          ((with_reducible refine (R1.out _ _ _ S12).mono ?_); rintro e w13 ⟨rfl, S13⟩)
          go_wp2_with fail
          ((with_reducible refine (G1.out _ _ _ S13).mono ?_); rintro e w14 ⟨rfl, S14⟩)
          go_wp2_with fail
          ((with_reducible refine (G2.out _ _ _ S14).mono ?_); rintro e w15 ⟨rfl, S15⟩)
          have c0 := S15.st.c0
          rw [show ecode true = 0 from rfl] at c0
          have HBB := Lib.hid (S15.below hB6 hB6.size)
          clear S7 S8 S9 S10 S11 S12 S13 S14 S15
          go_wp2_with fail
          go_region
          all_goals
            go_wp2
            go_ret2
            exact ⟨rfl, HBB.out.drew⟩
        · rw [if_neg h2]
          have h3 : (s1 == 0) = false := by rw [beq_eq_false_iff_ne]; exact h2
          clear j3 N1 N2 N3 N4 N5 N6 R2
          go_enter Tryz.func66, Tryz.ntmps66
          go_wp2_with fail
          ((with_reducible refine (HK.out _ (HG.out.later ((Below.refl _ _).alloc (Nat.le_refl _) _)) (SlS.five w _ _ _ _ _ _)).mono ?_); rintro e w1 ⟨rfl, hb1⟩)
          have hB1 : Below w.heap.size w w1 := ((Below.refl w.heap.size w).alloc (Nat.le_refl _) _).trans (hb1.mono (Nat.le_of_lt (alloc_lt w _)))
          clear hb1
          go_wp2_with fail
          ((with_reducible refine (CA.out _).mono ?_); rintro e w2 ⟨rfl, hb2⟩)
          have hB2 := hB1.trans (hb2.mono hB1.size); clear hb2
          go_wp2_with fail
          ((with_reducible refine (CB.out _).mono ?_); rintro e w3 ⟨rfl, hb3⟩)
          have hB3 := hB2.trans (hb3.mono hB2.size); clear hb3
          go_wp2_with fail
          ((with_reducible refine (CC.out _).mono ?_); rintro e w4 ⟨rfl, hb4⟩)
          have hB4 := hB3.trans (hb4.mono hB3.size); clear hb4
          go_wp2_with fail
          ((with_reducible refine (CD.out _).mono ?_); rintro e w5 ⟨rfl, hb5⟩)
          have hB5 := hB4.trans (hb5.mono hB4.size); clear hb5
          go_wp2_with fail
          ((with_reducible refine (CE.out _).mono ?_); rintro e w6 ⟨rfl, hb6⟩)
          have hB6 := hB5.trans (hb6.mono hB5.size); clear hb6
          have S7 := Sv.new w6 (HG.out.later hB6)
          go_wp2_with fail
          ((with_reducible refine (M1.out _ _ S7 _ (size_new' w6)).mono ?_); rintro e w8 ⟨rfl, S8⟩)
          go_wp2_with fail
          ((with_reducible refine (M2.out _ _ _ S8).mono ?_); rintro e w9 ⟨rfl, S9⟩)
          go_wp2_with fail
          ((with_reducible refine (M3.out _ _ _ S9).mono ?_); rintro e w10 ⟨rfl, S10⟩)
          go_wp2_with fail
          ((with_reducible refine (M4.out _ _ _ S10).mono ?_); rintro e w11 ⟨rfl, S11⟩)
          go_wp2_with fail
          ((with_reducible refine (M5.out _ _ _ S11).mono ?_); rintro e w12 ⟨rfl, S12⟩)
          go_wp2_with fail
          ((with_reducible refine (R1.out _ _ _ S12).mono ?_); rintro e w13 ⟨rfl, S13⟩)
          go_wp2_with fail
          ((with_reducible refine (G1.out _ _ _ S13).mono ?_); rintro e w14 ⟨rfl, S14⟩)
          go_wp2_with fail
          ((with_reducible refine (G2.out _ _ _ S14).mono ?_); rintro e w15 ⟨rfl, S15⟩)
          have c0 := S15.st.c0
          rw [show ecode true = 0 from rfl] at c0
          have HBB := Lib.hid (S15.below hB6 hB6.size)
          clear S7 S8 S9 S10 S11 S12 S13 S14 S15
          go_wp2_with fail
          go_region
          all_goals
            go_wp2
            go_ret2
            exact ⟨rfl, HBB.out.drew⟩
      · rw [if_neg h1]
        go_enter Tryz.func66, Tryz.ntmps66
        go_wp2_with fail
        ((with_reducible refine (HK.out _ (HG.out.later ((Below.refl _ _).alloc (Nat.le_refl _) _)) (SlS.five w _ _ _ _ _ _)).mono ?_); rintro e w1 ⟨rfl, hb1⟩)
        have hB1 : Below w.heap.size w w1 := ((Below.refl w.heap.size w).alloc (Nat.le_refl _) _).trans (hb1.mono (Nat.le_of_lt (alloc_lt w _)))
        clear hb1
        go_wp2_with fail
        ((with_reducible refine (CA.out _).mono ?_); rintro e w2 ⟨rfl, hb2⟩)
        have hB2 := hB1.trans (hb2.mono hB1.size); clear hb2
        go_wp2_with fail
        ((with_reducible refine (CB.out _).mono ?_); rintro e w3 ⟨rfl, hb3⟩)
        have hB3 := hB2.trans (hb3.mono hB2.size); clear hb3
        go_wp2_with fail
        ((with_reducible refine (CC.out _).mono ?_); rintro e w4 ⟨rfl, hb4⟩)
        have hB4 := hB3.trans (hb4.mono hB3.size); clear hb4
        go_wp2_with fail
        ((with_reducible refine (CD.out _).mono ?_); rintro e w5 ⟨rfl, hb5⟩)
        have hB5 := hB4.trans (hb5.mono hB4.size); clear hb5
        go_wp2_with fail
        ((with_reducible refine (CE.out _).mono ?_); rintro e w6 ⟨rfl, hb6⟩)
        have hB6 := hB5.trans (hb6.mono hB5.size); clear hb6
        have S7 := Sv.new w6 (HG.out.later hB6)
        go_wp2_with fail
        ((with_reducible refine (M1.out _ _ S7 _ (size_new' w6)).mono ?_); rintro e w8 ⟨rfl, S8⟩)
        go_wp2_with fail
        ((with_reducible refine (M2.out _ _ _ S8).mono ?_); rintro e w9 ⟨rfl, S9⟩)
        go_wp2_with fail
        ((with_reducible refine (M3.out _ _ _ S9).mono ?_); rintro e w10 ⟨rfl, S10⟩)
        go_wp2_with fail
        ((with_reducible refine (M4.out _ _ _ S10).mono ?_); rintro e w11 ⟨rfl, S11⟩)
        go_wp2_with fail
        ((with_reducible refine (M5.out _ _ _ S11).mono ?_); rintro e w12 ⟨rfl, S12⟩)
        go_wp2_with fail
        ((with_reducible refine (R1.out _ _ _ S12).mono ?_); rintro e w13 ⟨rfl, S13⟩)
        go_wp2_with fail
        ((with_reducible refine (G1.out _ _ _ S13).mono ?_); rintro e w14 ⟨rfl, S14⟩)
        go_wp2_with fail
        ((with_reducible refine (G2.out _ _ _ S14).mono ?_); rintro e w15 ⟨rfl, S15⟩)
        go_wp2_with fail
        ((with_reducible refine (N1.out _ _ _ S15).mono ?_); rintro e w16 ⟨rfl, S16⟩)
        go_wp2_with fail
        ((with_reducible refine (N2.out _ _ _ S16).mono ?_); rintro e w17 ⟨rfl, S17⟩)
        go_wp2_with fail
        ((with_reducible refine (N3.out _ _ _ S17).mono ?_); rintro e w18 ⟨rfl, S18⟩)
        go_wp2_with fail
        ((with_reducible refine (N4.out _ _ _ S18).mono ?_); rintro e w19 ⟨rfl, S19⟩)
        go_wp2_with fail
        ((with_reducible refine (N5.out _ _ _ S19).mono ?_); rintro e w20 ⟨rfl, S20⟩)
        go_wp2_with fail
        ((with_reducible refine (N6.out _ _ _ S20).mono ?_); rintro e w21 ⟨rfl, S21⟩)
        go_wp2_with fail
        ((with_reducible refine (R2.out _ _ _ S21).mono ?_); rintro e w22 ⟨rfl, S22⟩)
        have c0 := S22.st.c0
        rw [show ecode true = 0 from rfl] at c0
        have HBB := Lib.hid (S22.below hB6 hB6.size)
        clear S7 S8 S9 S10 S11 S12 S13 S14 S15 S16 S17 S18 S19 S20 S21 S22
        go_wp2
        go_ret2
        exact ⟨rfl, HBB.out⟩
end Go.Proofs.Wk
