/- THE PROGRAM's RATIONAL NUMBERS: signs of sums with square roots. -/
import Derived.Test.YtdpjkfkmlaphhaaGreatDoorHI
import Derived.Test.YtdpjkfkmlaphhaaGreatDoorHB
import Derived.Test.YtdpjkfkmlaphhaaGreatDoorPX
import Derived.Test.YtdpjkfkmlaphhaaGreatDoorPE
import Derived.Deep.RegionHeld3
namespace Go.Proofs.Wk
open Go.RowKit Mt

/-- Products of few short factors. -/
theorem mulS_small : ∀ (ns : List Int) (p : Int) (k j : Nat), lng p ≤ k → (∀ n ∈ ns, lng n ≤ j) → k + ns.length * j ≤ 1024 → mulS ns (p, true) = (ns.foldl (· * ·) p, true) ∧ lng (ns.foldl (· * ·) p) ≤ k + ns.length * j
  | [], p, k, j, hp, _, _ => ⟨rfl, by simpa using hp⟩
  | a :: t, p, k, j, hp, hn, hk => by
    have ha := hn a (by simp)
    have h1 := lng_mul p a hp ha
    have hj : (a :: t).length * j = j + t.length * j := by rw [List.length_cons, Nat.succ_mul]; omega
    obtain ⟨e1, e2⟩ := mulS_small t (p * a) (k + j) j h1 (fun n h => hn n (by simp [h])) (by omega)
    refine ⟨?_, by rw [hj]; show lng (t.foldl (· * ·) (p * a)) ≤ _; omega⟩
    show mulS t (dk (p * a) true) = _
    rw [dk_ok (lng_big_iff.1 (by omega)), e1]; rfl
theorem mulT (ns : List Int) (j : Nat) (r : Int) (cs : Array Value) (k g : Nat) (w0 W : World) (N : Nat) (T : TypeId) (S : Sv w0 g true W) (hN : W.heap.size = N) (hcs : cs = ((ns.map Lib.itoa).map txt).toArray) (hk : ns.length = k) (hk5 : k ≤ 5) (hb : ∀ n ∈ ns, lng n ≤ j) (hj : 1 + k * j ≤ 1024)
    (hr : ns.foldl (· * ·) 1 = r) :
    Calls Tryz.prog 95 #[.pointer (some ⟨g, 0, none⟩), .slice (some ⟨N, 0, none⟩) k k] (W.alloc (.cells cs T)) (Svs w0 g true (.string ⟨(Lib.itoa r).toArray⟩)) := by
  subst hN
  have h := mulL ns cs k g true w0 W T S hcs hk hk5 (fun n hn => lng_big_iff.1 (by
    have := hb n hn
    have h1 : 1 ≤ k := by rw [← hk]; exact List.length_pos_of_mem hn
    have h2 : j ≤ k * j := Nat.le_mul_of_pos_left _ h1
    omega))
  have e := (mulS_small ns 1 1 j lng_one hb (by rw [hk]; exact hj)).1
  rw [e, hr] at h
  exact h
theorem addT (x y r : Int) (k g : Nat) (w0 W : World) (S : Sv w0 g true W) (hx : lng x ≤ k) (hy : lng y ≤ k) (hk : k < 1024) (hr : x + y = r) :
    Calls Tryz.prog 94 #[.pointer (some ⟨g, 0, none⟩), .string ⟨(Lib.itoa x).toArray⟩, .string ⟨(Lib.itoa y).toArray⟩] W (Svs w0 g true (.string ⟨(Lib.itoa r).toArray⟩)) := by
  have h := addL x y g true w0 W S (lng_big_iff.1 (by omega)) (lng_big_iff.1 (by omega))
  have h2 := lng_add x y hx hy
  rwa [dk_ok (lng_big_iff.1 (by omega)), hr] at h
theorem subT (x y r : Int) (k g : Nat) (w0 W : World) (S : Sv w0 g true W) (hx : lng x ≤ k) (hy : lng y ≤ k) (hk : k < 1024) (hr : x - y = r) :
    Calls Tryz.prog 153 #[.pointer (some ⟨g, 0, none⟩), .string ⟨(Lib.itoa x).toArray⟩, .string ⟨(Lib.itoa y).toArray⟩] W (Svs w0 g true (.string ⟨(Lib.itoa r).toArray⟩)) := by
  have h := subL x y g true w0 W S (lng_big_iff.1 (by omega)) (lng_big_iff.1 (by omega))
  have h2 := lng_subk hx hy
  rwa [dk_ok (lng_big_iff.1 (by omega)), hr] at h
set_option maxRecDepth 100000 in
theorem sgnL (x : Int) (g : Nat) (w0 W : World) (S : Sv w0 g true W) (hx : lng x ≤ 1024) :
    Calls Tryz.prog 266 #[.pointer (some ⟨g, 0, none⟩), .string ⟨(Lib.itoa x).toArray⟩] W (Svs w0 g true (.int .i64 (sgn x))) := by
  have HI := Lib.hid (fun W => signI x W hx)
  have HS := Lib.hid S
  have c0 := S.st.c0
  rw [show ecode true = 0 from rfl] at c0
  clear hx S
  generalize sgn x = s at *
  generalize Lib.itoa x = tx at *
  go_enter Tryz.func266, Tryz.ntmps266
  go_wp2_with fail
  ((with_reducible refine (HI.out _).mono ?_); rintro e w1 ⟨rfl, hb1⟩)
  have S1 := HS.out.later hb1
  have c1 := S1.st.c0
  have f1 := S1.st.free 0
  have S2 := Lib.hid (S1.step (S1.st.set true rfl) (gb_set (gb_refl w1 (some g)) 0 (.int .i64 (ecode true))))
  clear hb1 S1 c0
  go_wp2
  go_ret
  exact ⟨rfl, S2.out⟩
theorem sgn_bd (x : Int) : -1 ≤ sgn x ∧ sgn x ≤ 1 := by have := cmp_spec x 0; unfold sgn; omega
theorem mul_bd2 {a b : Int} (ha : -1 ≤ a ∧ a ≤ 1) (hb : -1 ≤ b ∧ b ≤ 1) : -1 ≤ a * b ∧ a * b ≤ 1 := by
  have h1 : a = -1 ∨ a = 0 ∨ a = 1 := by omega
  rcases h1 with rfl | rfl | rfl <;> omega
theorem rootI_bd (x y r : Int) : -1 ≤ rootI x y r ∧ rootI x y r ≤ 1 := by
  unfold rootI
  split
  · split
    · exact sgn_bd x
    · exact mul_bd2 (sgn_bd y) (sgn_bd r)
  · exact mul_bd2 (sgn_bd x) (sgn_bd _)
theorem fold2 (x y : Int) : [x, y].foldl (· * ·) 1 = x * y := by show 1 * x * y = _; rw [Int.one_mul]
theorem fold3 (x y z : Int) : [x, y, z].foldl (· * ·) 1 = x * y * z := by show 1 * x * y * z = _; rw [Int.one_mul]
theorem fold4 (x y z u : Int) : [x, y, z, u].foldl (· * ·) 1 = x * y * z * u := by show 1 * x * y * z * u = _; rw [Int.one_mul]
theorem fold5 (x y z u v : Int) : [x, y, z, u, v].foldl (· * ·) 1 = x * y * z * u * v := by show 1 * x * y * z * u * v = _; rw [Int.one_mul]
set_option maxRecDepth 100000 in
set_option maxHeartbeats 2000000 in
theorem rootL (x y r : Int) (g : Nat) (w0 W : World) (S : Sv w0 g true W) (hx : lng x ≤ 302) (hy : lng y ≤ 271) (hr : lng r ≤ 60) :
    Calls Tryz.prog 265 #[.pointer (some ⟨g, 0, none⟩), .string ⟨(Lib.itoa x).toArray⟩, .string ⟨(Lib.itoa y).toArray⟩, .string ⟨(Lib.itoa r).toArray⟩] W (Svs w0 g true (.int .i64 (rootI x y r))) := by
  have S0 := S
  have H1 := Lib.hid (fun W S => sgnL x g w0 W S (by omega))
  have H2 := Lib.hid (fun W S => sgnL y g w0 W S (by omega))
  have H3 := Lib.hid (fun W S => sgnL r g w0 W S (by omega))
  have l1 : lng (x * x) ≤ 604 := by have := lng_mul x x hx hx; omega
  have l2 : lng (y * y * r) ≤ 604 := by have := lng_mul (y * y) r (lng_mul y y hy hy) hr; omega
  have M1 := Lib.hid (fun W S => mulT [x, x] 302 (x * x) #[.string ⟨(Lib.itoa x).toArray⟩, .string ⟨(Lib.itoa x).toArray⟩] 2 g w0 W _ 107 S rfl rfl rfl (by omega) (by intro n hn; simp at hn; subst hn; exact hx) (by omega) (fold2 x x))
  have M2 := Lib.hid (fun W S => mulT [y, y, r] 271 (y * y * r) #[.string ⟨(Lib.itoa y).toArray⟩, .string ⟨(Lib.itoa y).toArray⟩, .string ⟨(Lib.itoa r).toArray⟩] 3 g w0 W _ 107 S rfl rfl rfl (by omega) (by intro n hn; simp at hn; rcases hn with rfl | rfl <;> omega) (by omega) (fold3 y y r))
  have HS := Lib.hid (fun W S => subT (x * x) (y * y * r) _ 604 g w0 W S l1 l2 (by omega) rfl)
  have l3 := lng_subk l1 l2
  have H4 := Lib.hid (fun W S => sgnL (x * x - y * y * r) g w0 W S (by omega))
  unfold rootI
  have ba := sgn_bd x; have bb := mul_bd2 (sgn_bd y) (sgn_bd r); have bc := mul_bd2 ba bb; have bd := mul_bd2 ba (sgn_bd (x * x - y * y * r))
  have w1 : IntKind.i64.wrap (sgn y * sgn r) = sgn y * sgn r := IntWalk.i64_in _ (by omega)
  have w2 : IntKind.i64.wrap (sgn x * (sgn y * sgn r)) = sgn x * (sgn y * sgn r) := IntWalk.i64_in _ (by omega)
  have w3 : IntKind.i64.wrap (sgn x * sgn (x * x - y * y * r)) = sgn x * sgn (x * x - y * y * r) := IntWalk.i64_in _ (by omega)
  clear hx hy hr l1 l2 l3 ba bb bc bd S
  generalize hd : sgn (x * x - y * y * r) = d at *
  clear hd
  generalize Lib.itoa (x * x - y * y * r) = t3 at *
  generalize Lib.itoa (x * x) = t1 at *
  generalize Lib.itoa (y * y * r) = t2 at *
  generalize sgn x = a at *
  generalize sgn y = b at *
  generalize sgn r = c at *
  generalize Lib.itoa x = tx at *
  generalize Lib.itoa y = ty at *
  generalize Lib.itoa r = tr at *
  obtain ⟨bc, q1⟩ : ∃ v, b * c = v := ⟨_, rfl⟩
  have j1 := w1.trans q1
  rw [q1] at w2 ⊢
  clear w1 q1
  obtain ⟨abc, q2⟩ : ∃ v, a * bc = v := ⟨_, rfl⟩
  have j2 := w2.trans q2
  rw [q2]
  clear w2 q2
  obtain ⟨ad, q3⟩ : ∃ v, a * d = v := ⟨_, rfl⟩
  have j3 := w3.trans q3
  rw [q3]
  clear w3 q3
  by_cases h1 : abc ≥ 0
  · rw [if_pos h1]
    by_cases h2 : a ≠ 0
    · rw [if_pos h2]
      have h3 := bne_ne h2
      clear j3 H4 HS M1 M2
      go_enter Tryz.func265, Tryz.ntmps265
      go_wp2_with fail
      ((with_reducible refine (H1.out _ S0).mono ?_); rintro e w1 ⟨rfl, S1⟩)
      go_wp2_with fail
      ((with_reducible refine (H2.out _ S1).mono ?_); rintro e w2 ⟨rfl, S2⟩)
      go_wp2_with fail
      ((with_reducible refine (H3.out _ S2).mono ?_); rintro e w3 ⟨rfl, S3⟩)
      go_wp2
      go_ret
      exact ⟨rfl, S3⟩
    · rw [if_neg h2]
      obtain rfl : a = 0 := by omega
      clear j3 H4 HS M1 M2
      go_enter Tryz.func265, Tryz.ntmps265
      go_wp2_with fail
      ((with_reducible refine (H1.out _ S0).mono ?_); rintro e w1 ⟨rfl, S1⟩)
      go_wp2_with fail
      ((with_reducible refine (H2.out _ S1).mono ?_); rintro e w2 ⟨rfl, S2⟩)
      go_wp2_with fail
      ((with_reducible refine (H3.out _ S2).mono ?_); rintro e w3 ⟨rfl, S3⟩)
      go_wp2
      go_ret
      exact ⟨rfl, S3⟩
  · rw [if_neg h1]
    go_enter Tryz.func265, Tryz.ntmps265
    go_wp2_with fail
    ((with_reducible refine (H1.out _ S0).mono ?_); rintro e w1 ⟨rfl, S1⟩)
    go_wp2_with fail
    ((with_reducible refine (H2.out _ S1).mono ?_); rintro e w2 ⟨rfl, S2⟩)
    go_wp2_with fail
    ((with_reducible refine (H3.out _ S2).mono ?_); rintro e w3 ⟨rfl, S3⟩)
    go_wp2_with fail
    ((with_reducible refine (M1.out _ S3).mono ?_); rintro e w4 ⟨rfl, S4⟩)
    go_wp2_with fail
    ((with_reducible refine (M2.out _ S4).mono ?_); rintro e w5 ⟨rfl, S5⟩)
    go_wp2_with fail
    ((with_reducible refine (HS.out _ S5).mono ?_); rintro e w6 ⟨rfl, S6⟩)
    go_wp2_with fail
    ((with_reducible refine (H4.out _ S6).mono ?_); rintro e w7 ⟨rfl, S7⟩)
    go_wp2
    go_ret
    exact ⟨rfl, S7⟩
end Go.Proofs.Wk
/- THE PROGRAM's RATIONAL NUMBERS: the sign of a sum with two square roots. -/
namespace Go.Proofs.Wk
open Go.RowKit Mt

theorem rtoa_cons (c : Rat) : ∃ h t, rtoa c = h :: t ∧ (c < 0 → h = 45) ∧ (¬ c < 0 → h ≠ 45) := by
  have h1 := pre_itoa c.num
  obtain ⟨h, t, e⟩ : ∃ h t, Lib.itoa c.num = h :: t := List.exists_cons_of_ne_nil (itoa_ne_nil _)
  have h2 : (45 == h) = decide (c.num < 0) := by rw [← h1, e]; simp [List.isPrefixOf]
  have h3 : ∃ t', rtoa c = h :: t' := by
    unfold rtoa
    split
    · exact ⟨t, e⟩
    · exact ⟨t ++ 47 :: Lib.itoa (c.den : Int), by rw [e]; rfl⟩
  obtain ⟨t', e'⟩ := h3
  refine ⟨h, t', e', fun hc => ?_, fun hc => ?_⟩
  · rw [lt_zero_iff] at hc
    rw [decide_eq_true hc, beq_iff_eq] at h2
    exact h2.symm
  · rw [lt_zero_iff] at hc
    rw [decide_eq_false hc, beq_eq_false_iff_ne] at h2
    exact fun e => h2 e.symm
theorem SlS.five (w : World) (a b c d e : Txt) (t : TypeId) : SlS (w.alloc (.cells #[.string ⟨a.toArray⟩, .string ⟨b.toArray⟩, .string ⟨c.toArray⟩, .string ⟨d.toArray⟩, .string ⟨e.toArray⟩] t)) (.slice (some ⟨w.heap.size, 0, none⟩) 5 5) [a, b, c, d, e] :=
  .inr ⟨w.heap.size, 0, 5, rfl, RS.lit w [a, b, c, d, e] t, alloc_lt w _⟩
set_option maxRecDepth 100000 in
theorem qSignRoots_err (a b c d e : Txt) (w : World) (hg : Good w) (hl : ∀ l ∈ [a, b, c, d, e], l.length ≤ 140737488355328) (h : firstR [a, b, c, d, e] ≠ 0) :
    Calls Tryz.prog 240 #[.string ⟨a.toArray⟩, .string ⟨b.toArray⟩, .string ⟨c.toArray⟩, .string ⟨d.toArray⟩, .string ⟨e.toArray⟩] w (Ret w (int2 (0, firstR [a, b, c, d, e]))) := by
  have HG := Lib.hid hg
  have HK := Lib.hid (fun W hW hS => checks_c (v := .slice (some ⟨w.heap.size, 0, none⟩) 5 5) [a, b, c, d, e] W hW hS (by simp) hl)
  have h3 := bne_ne h
  clear hl h hg
  generalize firstR [a, b, c, d, e] = x at *
  go_enter Tryz.func240, Tryz.ntmps240
  go_wp2_with fail
  ((with_reducible refine (HK.out _ (HG.out.later ((Below.refl _ _).alloc (Nat.le_refl _) _)) (SlS.five w _ _ _ _ _ _)).mono ?_); rintro e w1 ⟨rfl, hb1⟩)
  have hB1 : Below w.heap.size w w1 := ((Below.refl w.heap.size w).alloc (Nat.le_refl _) _).trans (hb1.mono (Nat.le_of_lt (alloc_lt w _)))
  go_wp2
  go_ret2
  exact ⟨rfl, hB1⟩
theorem lng_scX {a b c d e : Rat} (ha : szQ a 30) (hb : szQ b 30) (hc : szQ c 30) (hd : szQ d 30) (he : szQ e 30) : lng (scX a b c d e) ≤ 150 := by
  unfold scX
  have := lng_mul _ _ (lng_mul _ _ (lng_mul _ _ (lng_mul _ _ ha.1 hb.2) hc.2) hd.2) he.2; omega
theorem lng_scY {a b d e : Rat} (ha : szQ a 30) (hb : szQ b 30) (hd : szQ d 30) (he : szQ e 30) : lng (scY a b d e) ≤ 120 := by
  unfold scY
  have := lng_mul _ _ (lng_mul _ _ (lng_mul _ _ hb.1 ha.2) hd.2) he.2; omega
theorem lng_scR {c : Rat} (hc : szQ c 30) : lng (scR c) ≤ 60 := by
  unfold scR; have := lng_mul _ _ hc.1 hc.2; omega
theorem lng_scZ {a b c d : Rat} (ha : szQ a 30) (hb : szQ b 30) (hc : szQ c 30) (hd : szQ d 30) : lng (scZ a b c d) ≤ 120 := by
  unfold scZ
  have := lng_mul _ _ (lng_mul _ _ (lng_mul _ _ hd.1 ha.2) hb.2) hc.2; omega
theorem itoa_two : Lib.itoa 2 = [50] := itoa_val (l := [50]) (by decide)
theorem size_new' (w : World) : (w.alloc (.cells #[.int .i64 0] 217)).heap.size = w.heap.size + 1 := by simp
set_option maxRecDepth 100000 in
set_option maxHeartbeats 4000000 in
theorem qSignRoots_ok (a b c d e : Rat) (w : World) (hg : Good w) (ha : szQ a 30) (hb : szQ b 30) (hc : szQ c 30) (hd : szQ d 30) (he : szQ e 30) :
    Calls Tryz.prog 240 #[.string ⟨(rtoa a).toArray⟩, .string ⟨(rtoa b).toArray⟩, .string ⟨(rtoa c).toArray⟩, .string ⟨(rtoa d).toArray⟩, .string ⟨(rtoa e).toArray⟩] w (Ret w (int2 (if c < 0 ∨ e < 0 then (0, 2) else (rootsQ a b c d e, 0)))) := by
  have HG := Lib.hid hg
  have hok : ∀ x ∈ [a, b, c, d, e], okQ x := by intro x hx; simp at hx; rcases hx with rfl | rfl | rfl | rfl | rfl <;> first | exact ha.ok (by omega) | exact hb.ok (by omega) | exact hc.ok (by omega) | exact hd.ok (by omega) | exact he.ok (by omega)
  have hx : firstR [rtoa a, rtoa b, rtoa c, rtoa d, rtoa e] = 0 := firstR_ok (qs := [a, b, c, d, e]) hok
  have hk := fun W hW hS => checks_c (v := .slice (some ⟨w.heap.size, 0, none⟩) 5 5) [rtoa a, rtoa b, rtoa c, rtoa d, rtoa e] W hW hS (by simp) (by
    intro l h
    obtain ⟨x, hx, rfl⟩ := List.mem_map.1 (show l ∈ [a, b, c, d, e].map rtoa from h)
    exact tlen (hok x hx))
  rw [hx] at hk
  have CA := Lib.hid (fun W => cut_q a W (ha.ok (by omega)))
  have CB := Lib.hid (fun W => cut_q b W (hb.ok (by omega)))
  have cc := fun W => cut_q c W (hc.ok (by omega))
  have CD := Lib.hid (fun W => cut_q d W (hd.ok (by omega)))
  have ce := fun W => cut_q e W (he.ok (by omega))
  have lX := lng_scX ha hb hc hd he; have lY := lng_scY ha hb hd he; have lR := lng_scR hc; have lZ := lng_scZ ha hb hc hd; have lT := lng_scR he
  have M1 := Lib.hid (fun g W S N hN => mulT [a.num, (b.den : Int), (c.den : Int), (d.den : Int), (e.den : Int)] 30 (scX a b c d e) #[.string ⟨(Lib.itoa a.num).toArray⟩, .string ⟨(Lib.itoa (b.den : Int)).toArray⟩, .string ⟨(Lib.itoa (c.den : Int)).toArray⟩, .string ⟨(Lib.itoa (d.den : Int)).toArray⟩, .string ⟨(Lib.itoa (e.den : Int)).toArray⟩] 5 g W W N 107 S hN rfl rfl (by omega)
    (by intro n hn; simp at hn; rcases hn with rfl | rfl | rfl | rfl | rfl <;> first | exact ha.1 | exact hb.2 | exact hc.2 | exact hd.2 | exact he.2) (by omega) (fold5 _ _ _ _ _))
  have M2 := Lib.hid (fun g w0 W S => mulT [b.num, (a.den : Int), (d.den : Int), (e.den : Int)] 30 (scY a b d e) #[.string ⟨(Lib.itoa b.num).toArray⟩, .string ⟨(Lib.itoa (a.den : Int)).toArray⟩, .string ⟨(Lib.itoa (d.den : Int)).toArray⟩, .string ⟨(Lib.itoa (e.den : Int)).toArray⟩] 4 g w0 W _ 107 S rfl rfl rfl (by omega)
    (by intro n hn; simp at hn; rcases hn with rfl | rfl | rfl | rfl <;> first | exact hb.1 | exact ha.2 | exact hd.2 | exact he.2) (by omega) (fold4 _ _ _ _))
  have M3 := Lib.hid (fun g w0 W S => mulT [c.num, (c.den : Int)] 30 (scR c) #[.string ⟨(Lib.itoa c.num).toArray⟩, .string ⟨(Lib.itoa (c.den : Int)).toArray⟩] 2 g w0 W _ 107 S rfl rfl rfl (by omega)
    (by intro n hn; simp at hn; rcases hn with rfl | rfl <;> first | exact hc.1 | exact hc.2) (by omega) (fold2 _ _))
  have M4 := Lib.hid (fun g w0 W S => mulT [d.num, (a.den : Int), (b.den : Int), (c.den : Int)] 30 (scZ a b c d) #[.string ⟨(Lib.itoa d.num).toArray⟩, .string ⟨(Lib.itoa (a.den : Int)).toArray⟩, .string ⟨(Lib.itoa (b.den : Int)).toArray⟩, .string ⟨(Lib.itoa (c.den : Int)).toArray⟩] 4 g w0 W _ 107 S rfl rfl rfl (by omega)
    (by intro n hn; simp at hn; rcases hn with rfl | rfl | rfl | rfl <;> first | exact hd.1 | exact ha.2 | exact hb.2 | exact hc.2) (by omega) (fold4 _ _ _ _))
  have M5 := Lib.hid (fun g w0 W S => mulT [e.num, (e.den : Int)] 30 (scR e) #[.string ⟨(Lib.itoa e.num).toArray⟩, .string ⟨(Lib.itoa (e.den : Int)).toArray⟩] 2 g w0 W _ 107 S rfl rfl rfl (by omega)
    (by intro n hn; simp at hn; rcases hn with rfl | rfl <;> first | exact he.1 | exact he.2) (by omega) (fold2 _ _))
  rw [← (roots_same a b c d e).1]
  clear ha hb hc hd he hok hx hg
  generalize scX a b c d e = x at *
  generalize scY a b d e = y at *
  generalize scR c = r at *
  generalize scZ a b c d = z at *
  generalize scR e = t at *
  have R1 := Lib.hid (fun g w0 W S => rootL x y r g w0 W S (by omega) (by omega) (by omega))
  have G1 := Lib.hid (fun g w0 W S => sgnL z g w0 W S (by omega))
  have G2 := Lib.hid (fun g w0 W S => sgnL t g w0 W S (by omega))
  have l1 : lng (x * x) ≤ 300 := by have := lng_mul x x lX lX; omega
  have l2 : lng (y * y * r) ≤ 300 := by have := lng_mul (y * y) r (lng_mul y y lY lY) lR; omega
  have l3 : lng (z * z * t) ≤ 301 := by have := lng_mul (z * z) t (lng_mul z z lZ lZ) lT; omega
  have l4 := lng_add (x * x) (y * y * r) l1 l2
  have l5 := lng_subk l4 l3
  have l6 : lng (2 * x * y) ≤ 271 := by have := lng_mul (2 * x) y (lng_mul 2 x ((lng_le 2 (k := 1) (by omega)).2 (by decide)) lX) lY; omega
  have N1 := Lib.hid (fun g w0 W S => mulT [x, x] 150 (x * x) #[.string ⟨(Lib.itoa x).toArray⟩, .string ⟨(Lib.itoa x).toArray⟩] 2 g w0 W _ 107 S rfl rfl rfl (by omega) (by intro n hn; simp at hn; subst hn; exact lX) (by omega) (fold2 _ _))
  have N2 := Lib.hid (fun g w0 W S => mulT [y, y, r] 120 (y * y * r) #[.string ⟨(Lib.itoa y).toArray⟩, .string ⟨(Lib.itoa y).toArray⟩, .string ⟨(Lib.itoa r).toArray⟩] 3 g w0 W _ 107 S rfl rfl rfl (by omega) (by intro n hn; simp at hn; rcases hn with rfl | rfl <;> omega) (by omega) (fold3 _ _ _))
  have N3 := Lib.hid (fun g w0 W S => addT (x * x) (y * y * r) _ 300 g w0 W S l1 l2 (by omega) rfl)
  have N4 := Lib.hid (fun g w0 W S => mulT [z, z, t] 120 (z * z * t) #[.string ⟨(Lib.itoa z).toArray⟩, .string ⟨(Lib.itoa z).toArray⟩, .string ⟨(Lib.itoa t).toArray⟩] 3 g w0 W _ 107 S rfl rfl rfl (by omega) (by intro n hn; simp at hn; rcases hn with rfl | rfl <;> omega) (by omega) (fold3 _ _ _))
  have N5 := Lib.hid (fun g w0 W S => subT (x * x + y * y * r) (z * z * t) _ 301 g w0 W S l4 l3 (by omega) rfl)
  have N6 := Lib.hid (fun g w0 W S => mulT [2, x, y] 150 (2 * x * y) #[.string ⟨#[50]⟩, .string ⟨(Lib.itoa x).toArray⟩, .string ⟨(Lib.itoa y).toArray⟩] 3 g w0 W _ 107 S rfl (by simp only [List.map_cons, List.map_nil, itoa_two]) rfl (by omega) (by intro n hn; simp at hn; rcases hn with rfl | rfl | rfl; exact Nat.le_trans ((lng_le 2 (k := 1) (by omega)).2 (by decide)) (by omega); omega; omega) (by omega) (fold3 _ _ _))
  have R2 := Lib.hid (fun g w0 W S => rootL (x * x + y * y * r - z * z * t) (2 * x * y) r g w0 W S l5 l6 lR)
  unfold rootsI
  have b1 := rootI_bd x y r; have b2 := mul_bd2 (sgn_bd z) (sgn_bd t); have b3 := mul_bd2 b1 b2; have b4 := mul_bd2 b1 (rootI_bd (x * x + y * y * r - z * z * t) (2 * x * y) r)
  have k1 : IntKind.i64.wrap (sgn z * sgn t) = sgn z * sgn t := IntWalk.i64_in _ (by omega)
  have k2 : IntKind.i64.wrap (rootI x y r * (sgn z * sgn t)) = rootI x y r * (sgn z * sgn t) := IntWalk.i64_in _ (by omega)
  have k3 : IntKind.i64.wrap (rootI x y r * rootI (x * x + y * y * r - z * z * t) (2 * x * y) r) = rootI x y r * rootI (x * x + y * y * r - z * z * t) (2 * x * y) r := IntWalk.i64_in _ (by omega)
  clear l1 l2 l3 l4 l5 l6 lX lY lR lZ lT b1 b2 b3 b4
  obtain ⟨hc1, tc1, ec, cy, cn⟩ := rtoa_cons c
  obtain ⟨he1, te1, ee, ey, en⟩ := rtoa_cons e
  rw [ec, ee] at hk
  rw [ec] at cc; rw [ee] at ce
  rw [ec, ee]
  have HK := Lib.hid hk; have CC := Lib.hid cc; have CE := Lib.hid ce
  clear hk cc ce ec ee
  generalize rootI (x * x + y * y * r - z * z * t) (2 * x * y) r = s5 at *
  generalize rootI x y r = s1 at *
  generalize sgn z = s2 at *
  generalize sgn t = s3 at *
  generalize Lib.itoa (x * x + y * y * r - z * z * t) = u1 at *
  generalize Lib.itoa (x * x + y * y * r) = u2 at *
  generalize Lib.itoa (x * x) = u3 at *
  generalize Lib.itoa (y * y * r) = u4 at *
  generalize Lib.itoa (z * z * t) = u5 at *
  generalize Lib.itoa (2 * x * y) = u6 at *
  generalize Lib.itoa x = tx at *
  generalize Lib.itoa y = ty at *
  generalize Lib.itoa r = tr at *
  generalize Lib.itoa z = tz at *
  generalize Lib.itoa t = tt at *
  generalize Lib.itoa a.num = v1 at *
  generalize Lib.itoa (a.den : Int) = v2 at *
  generalize Lib.itoa b.num = v3 at *
  generalize Lib.itoa (b.den : Int) = v4 at *
  generalize Lib.itoa c.num = v5 at *
  generalize Lib.itoa (c.den : Int) = v6 at *
  generalize Lib.itoa d.num = v7 at *
  generalize Lib.itoa (d.den : Int) = v8 at *
  generalize Lib.itoa e.num = v9 at *
  generalize Lib.itoa (e.den : Int) = v10 at *
  generalize rhas (rtoa a) = o1 at *
  generalize rhas (rtoa b) = o2 at *
  generalize rhas (hc1 :: tc1) = o3 at *
  generalize rhas (rtoa d) = o4 at *
  generalize rhas (he1 :: te1) = o5 at *
  generalize rtoa a = ta at *
  generalize rtoa b = tb at *
  generalize rtoa d = td at *
  obtain ⟨s23, q1⟩ : ∃ v, s2 * s3 = v := ⟨_, rfl⟩
  have j1 := k1.trans q1
  rw [q1] at k2 ⊢
  clear k1 q1
  obtain ⟨s123, q2⟩ : ∃ v, s1 * s23 = v := ⟨_, rfl⟩
  have j2 := k2.trans q2
  rw [q2]
  clear k2 q2
  obtain ⟨s15, q3⟩ : ∃ v, s1 * s5 = v := ⟨_, rfl⟩
  have j3 := k3.trans q3
  rw [q3]
  clear k3 q3
  by_cases h1 : c < 0
  · rw [if_pos (.inl h1)]
    have hb := u8_eq_yes (d := 45) (k := 45) rfl (cy h1)
    clear cy cn ey en h1 j1 j2 j3 CA CB CC CD CE M1 M2 M3 M4 M5 N1 N2 N3 N4 N5 N6 R1 R2 G1 G2
    go_enter Tryz.func240, Tryz.ntmps240
    go_wp2_with fail
    ((with_reducible refine (HK.out _ (HG.out.later ((Below.refl _ _).alloc (Nat.le_refl _) _)) (SlS.five w _ _ _ _ _ _)).mono ?_); rintro e w1 ⟨rfl, hb1⟩)
    have hB1 : Below w.heap.size w w1 := ((Below.refl w.heap.size w).alloc (Nat.le_refl _) _).trans (hb1.mono (Nat.le_of_lt (alloc_lt w _)))
    clear hb1
    go_wp2
    go_ret2
    exact ⟨rfl, hB1⟩
  · have hb := u8_eq_no (d := 45) (k := 45) rfl (cn h1)
    by_cases h2 : e < 0
    · rw [if_pos (.inr h2)]
      have hb2 := u8_eq_yes (d := 45) (k := 45) rfl (ey h2)
      clear cy cn ey en h1 h2 j1 j2 j3 CA CB CC CD CE M1 M2 M3 M4 M5 N1 N2 N3 N4 N5 N6 R1 R2 G1 G2
      go_enter Tryz.func240, Tryz.ntmps240
      go_wp2_with fail
      ((with_reducible refine (HK.out _ (HG.out.later ((Below.refl _ _).alloc (Nat.le_refl _) _)) (SlS.five w _ _ _ _ _ _)).mono ?_); rintro e w1 ⟨rfl, hb1⟩)
      have hB1 : Below w.heap.size w w1 := ((Below.refl w.heap.size w).alloc (Nat.le_refl _) _).trans (hb1.mono (Nat.le_of_lt (alloc_lt w _)))
      clear hb1
      go_wp2
      go_ret2
      exact ⟨rfl, hB1⟩
    · rw [if_neg (by rintro (h | h); exact h1 h; exact h2 h)]
      have hb2 := u8_eq_no (d := 45) (k := 45) rfl (en h2)
      clear cy cn ey en h1 h2
      by_cases h1 : s123 ≥ 0
      · rw [if_pos h1]
        by_cases h2 : s1 = 0
        · rw [if_pos h2]
          subst h2
          clear j3 N1 N2 N3 N4 N5 N6 R2
          go_enter Tryz.func240, Tryz.ntmps240
          go_wp2_with fail
          ((with_reducible refine (HK.out _ (HG.out.later ((Below.refl _ _).alloc (Nat.le_refl _) _)) (SlS.five w _ _ _ _ _ _)).mono ?_); rintro e w1 ⟨rfl, hb1⟩)
          have hB1 : Below w.heap.size w w1 := ((Below.refl w.heap.size w).alloc (Nat.le_refl _) _).trans (hb1.mono (Nat.le_of_lt (alloc_lt w _)))
          clear hb1
          go_wp2_with fail
          ((with_reducible refine (CA.out _).mono ?_); rintro e w2 ⟨rfl, hb2⟩)
          have hB2 := hB1.trans (hb2.mono hB1.size); clear hb2
          go_wp2_with fail
          ((with_reducible refine (CB.out _).mono ?_); rintro e w3 ⟨rfl, hb3⟩)
          have hB3 := hB2.trans (hb3.mono hB2.size); clear hb3
          go_wp2_with fail
          ((with_reducible refine (CC.out _).mono ?_); rintro e w4 ⟨rfl, hb4⟩)
          have hB4 := hB3.trans (hb4.mono hB3.size); clear hb4
          go_wp2_with fail
          ((with_reducible refine (CD.out _).mono ?_); rintro e w5 ⟨rfl, hb5⟩)
          have hB5 := hB4.trans (hb5.mono hB4.size); clear hb5
          go_wp2_with fail
          ((with_reducible refine (CE.out _).mono ?_); rintro e w6 ⟨rfl, hb6⟩)
          have hB6 := hB5.trans (hb6.mono hB5.size); clear hb6
          have S7 := Sv.new w6 (HG.out.later hB6)
          go_wp2_with fail
          ((with_reducible refine (M1.out _ _ S7 _ (size_new' w6)).mono ?_); rintro e w8 ⟨rfl, S8⟩)
          go_wp2_with fail
          ((with_reducible refine (M2.out _ _ _ S8).mono ?_); rintro e w9 ⟨rfl, S9⟩)
          go_wp2_with fail
          ((with_reducible refine (M3.out _ _ _ S9).mono ?_); rintro e w10 ⟨rfl, S10⟩)
          go_wp2_with fail
          ((with_reducible refine (M4.out _ _ _ S10).mono ?_); rintro e w11 ⟨rfl, S11⟩)
          go_wp2_with fail
          ((with_reducible refine (M5.out _ _ _ S11).mono ?_); rintro e w12 ⟨rfl, S12⟩)
          go_wp2_with fail
          ((with_reducible refine (R1.out _ _ _ S12).mono ?_); rintro e w13 ⟨rfl, S13⟩)
          go_wp2_with fail
          ((with_reducible refine (G1.out _ _ _ S13).mono ?_); rintro e w14 ⟨rfl, S14⟩)
          go_wp2_with fail
          ((with_reducible refine (G2.out _ _ _ S14).mono ?_); rintro e w15 ⟨rfl, S15⟩)
          have c0 := S15.st.c0
          rw [show ecode true = 0 from rfl] at c0
          have HBB := Lib.hid (S15.below hB6 hB6.size)
          clear S7 S8 S9 S10 S11 S12 S13 S14 S15
          go_wp2_with fail
          go_region
          all_goals
            go_wp2
            go_ret2
            exact ⟨rfl, HBB.out.drew⟩
        · rw [if_neg h2]
          have h3 : (s1 == 0) = false := by rw [beq_eq_false_iff_ne]; exact h2
          clear j3 N1 N2 N3 N4 N5 N6 R2
          go_enter Tryz.func240, Tryz.ntmps240
          go_wp2_with fail
          ((with_reducible refine (HK.out _ (HG.out.later ((Below.refl _ _).alloc (Nat.le_refl _) _)) (SlS.five w _ _ _ _ _ _)).mono ?_); rintro e w1 ⟨rfl, hb1⟩)
          have hB1 : Below w.heap.size w w1 := ((Below.refl w.heap.size w).alloc (Nat.le_refl _) _).trans (hb1.mono (Nat.le_of_lt (alloc_lt w _)))
          clear hb1
          go_wp2_with fail
          ((with_reducible refine (CA.out _).mono ?_); rintro e w2 ⟨rfl, hb2⟩)
          have hB2 := hB1.trans (hb2.mono hB1.size); clear hb2
          go_wp2_with fail
          ((with_reducible refine (CB.out _).mono ?_); rintro e w3 ⟨rfl, hb3⟩)
          have hB3 := hB2.trans (hb3.mono hB2.size); clear hb3
          go_wp2_with fail
          ((with_reducible refine (CC.out _).mono ?_); rintro e w4 ⟨rfl, hb4⟩)
          have hB4 := hB3.trans (hb4.mono hB3.size); clear hb4
          go_wp2_with fail
          ((with_reducible refine (CD.out _).mono ?_); rintro e w5 ⟨rfl, hb5⟩)
          have hB5 := hB4.trans (hb5.mono hB4.size); clear hb5
          go_wp2_with fail
          ((with_reducible refine (CE.out _).mono ?_); rintro e w6 ⟨rfl, hb6⟩)
          have hB6 := hB5.trans (hb6.mono hB5.size); clear hb6
          have S7 := Sv.new w6 (HG.out.later hB6)
          go_wp2_with fail
          ((with_reducible refine (M1.out _ _ S7 _ (size_new' w6)).mono ?_); rintro e w8 ⟨rfl, S8⟩)
          go_wp2_with fail
          ((with_reducible refine (M2.out _ _ _ S8).mono ?_); rintro e w9 ⟨rfl, S9⟩)
          go_wp2_with fail
          ((with_reducible refine (M3.out _ _ _ S9).mono ?_); rintro e w10 ⟨rfl, S10⟩)
          go_wp2_with fail
          ((with_reducible refine (M4.out _ _ _ S10).mono ?_); rintro e w11 ⟨rfl, S11⟩)
          go_wp2_with fail
          ((with_reducible refine (M5.out _ _ _ S11).mono ?_); rintro e w12 ⟨rfl, S12⟩)
          go_wp2_with fail
          ((with_reducible refine (R1.out _ _ _ S12).mono ?_); rintro e w13 ⟨rfl, S13⟩)
          go_wp2_with fail
          ((with_reducible refine (G1.out _ _ _ S13).mono ?_); rintro e w14 ⟨rfl, S14⟩)
          go_wp2_with fail
          ((with_reducible refine (G2.out _ _ _ S14).mono ?_); rintro e w15 ⟨rfl, S15⟩)
          have c0 := S15.st.c0
          rw [show ecode true = 0 from rfl] at c0
          have HBB := Lib.hid (S15.below hB6 hB6.size)
          clear S7 S8 S9 S10 S11 S12 S13 S14 S15
          go_wp2_with fail
          go_region
          all_goals
            go_wp2
            go_ret2
            exact ⟨rfl, HBB.out.drew⟩
      · rw [if_neg h1]
        go_enter Tryz.func240, Tryz.ntmps240
        go_wp2_with fail
        ((with_reducible refine (HK.out _ (HG.out.later ((Below.refl _ _).alloc (Nat.le_refl _) _)) (SlS.five w _ _ _ _ _ _)).mono ?_); rintro e w1 ⟨rfl, hb1⟩)
        have hB1 : Below w.heap.size w w1 := ((Below.refl w.heap.size w).alloc (Nat.le_refl _) _).trans (hb1.mono (Nat.le_of_lt (alloc_lt w _)))
        clear hb1
        go_wp2_with fail
        ((with_reducible refine (CA.out _).mono ?_); rintro e w2 ⟨rfl, hb2⟩)
        have hB2 := hB1.trans (hb2.mono hB1.size); clear hb2
        go_wp2_with fail
        ((with_reducible refine (CB.out _).mono ?_); rintro e w3 ⟨rfl, hb3⟩)
        have hB3 := hB2.trans (hb3.mono hB2.size); clear hb3
        go_wp2_with fail
        ((with_reducible refine (CC.out _).mono ?_); rintro e w4 ⟨rfl, hb4⟩)
        have hB4 := hB3.trans (hb4.mono hB3.size); clear hb4
        go_wp2_with fail
        ((with_reducible refine (CD.out _).mono ?_); rintro e w5 ⟨rfl, hb5⟩)
        have hB5 := hB4.trans (hb5.mono hB4.size); clear hb5
        go_wp2_with fail
        ((with_reducible refine (CE.out _).mono ?_); rintro e w6 ⟨rfl, hb6⟩)
        have hB6 := hB5.trans (hb6.mono hB5.size); clear hb6
        have S7 := Sv.new w6 (HG.out.later hB6)
        go_wp2_with fail
        ((with_reducible refine (M1.out _ _ S7 _ (size_new' w6)).mono ?_); rintro e w8 ⟨rfl, S8⟩)
        go_wp2_with fail
        ((with_reducible refine (M2.out _ _ _ S8).mono ?_); rintro e w9 ⟨rfl, S9⟩)
        go_wp2_with fail
        ((with_reducible refine (M3.out _ _ _ S9).mono ?_); rintro e w10 ⟨rfl, S10⟩)
        go_wp2_with fail
        ((with_reducible refine (M4.out _ _ _ S10).mono ?_); rintro e w11 ⟨rfl, S11⟩)
        go_wp2_with fail
        ((with_reducible refine (M5.out _ _ _ S11).mono ?_); rintro e w12 ⟨rfl, S12⟩)
        go_wp2_with fail
        ((with_reducible refine (R1.out _ _ _ S12).mono ?_); rintro e w13 ⟨rfl, S13⟩)
        go_wp2_with fail
        ((with_reducible refine (G1.out _ _ _ S13).mono ?_); rintro e w14 ⟨rfl, S14⟩)
        go_wp2_with fail
        ((with_reducible refine (G2.out _ _ _ S14).mono ?_); rintro e w15 ⟨rfl, S15⟩)
        go_wp2_with fail
        ((with_reducible refine (N1.out _ _ _ S15).mono ?_); rintro e w16 ⟨rfl, S16⟩)
        go_wp2_with fail
        ((with_reducible refine (N2.out _ _ _ S16).mono ?_); rintro e w17 ⟨rfl, S17⟩)
        go_wp2_with fail
        ((with_reducible refine (N3.out _ _ _ S17).mono ?_); rintro e w18 ⟨rfl, S18⟩)
        go_wp2_with fail
        ((with_reducible refine (N4.out _ _ _ S18).mono ?_); rintro e w19 ⟨rfl, S19⟩)
        go_wp2_with fail
        ((with_reducible refine (N5.out _ _ _ S19).mono ?_); rintro e w20 ⟨rfl, S20⟩)
        go_wp2_with fail
        ((with_reducible refine (N6.out _ _ _ S20).mono ?_); rintro e w21 ⟨rfl, S21⟩)
        go_wp2_with fail
        ((with_reducible refine (R2.out _ _ _ S21).mono ?_); rintro e w22 ⟨rfl, S22⟩)
        have c0 := S22.st.c0
        rw [show ecode true = 0 from rfl] at c0
        have HBB := Lib.hid (S22.below hB6 hB6.size)
        clear S7 S8 S9 S10 S11 S12 S13 S14 S15 S16 S17 S18 S19 S20 S21 S22
        go_wp2
        go_ret2
        exact ⟨rfl, HBB.out⟩
end Go.Proofs.Wk
/- DISCS: sums that remember an error; what a disc contains. -/
namespace Go.Proofs.Wk
open Go.RowKit Mt Po

theorem below_same {B : Nat} {w W : World} (h : Below B w W) {g : Nat} {v : Value} {T : TypeId} (hg : W.heap[g]? = some (.cells #[v] T (0, 0))) : Below B w (W.setCell ⟨g, 0, none⟩ v) := by
  have hs : (W.setCell ⟨g, 0, none⟩ v).heap[g]? = some (.cells #[v] T (0, 0)) := heap_setCell_same W g 0 _ _ v hg
  refine ⟨h.os, h.tape, h.output, by rw [show (W.setCell ⟨g, 0, none⟩ v).heap.size = W.heap.size by simp [World.setCell]]; exact h.size, fun k hk => ?_⟩
  by_cases e : k = g
  · subst e
    rw [hs, ← hg]
    exact h.block k hk
  · rw [heap_setCell_other W ⟨g, 0, none⟩ k v e]
    exact h.block k hk
/-- The first byte of a number that is not below 0. -/
theorem rtoa_first {q : Rat} (h : 0 ≤ q) : ∃ c l, rtoa q = c :: l ∧ c ≠ 45 := by
  have hn : 0 ≤ q.num := Rat.num_nonneg.2 h
  have hi : ∃ c l, Lib.itoa q.num = c :: l ∧ c ≠ 45 := by
    rw [itoa_pos' hn]
    cases hL : Lib.decDigits q.num.natAbs with
    | nil => exact absurd hL (dec_ne_nil _)
    | cons c l =>
      refine ⟨c, l, rfl, fun e => ?_⟩
      have := List.all_eq_true.1 (allD_dec q.num.natAbs) c (by rw [hL]; simp)
      rw [e] at this
      exact absurd this (by decide)
  obtain ⟨c, l, e, hc⟩ := hi
  unfold rtoa
  split
  · exact ⟨c, l, e, hc⟩
  · exact ⟨c, l ++ 47 :: Lib.itoa (q.den : Int), by rw [e]; rfl, hc⟩
def DzS (w : World) (g : Nat) : Prop := w.heap[g]? = some (.cells #[.int .i64 0] 147 (0, 0))
theorem DzS.later {w w' : World} {g : Nat} (h : DzS w g) (hb : Below w.heap.size w w') : DzS w' g := keepD h hb
abbrev plV (x y : Txt) : Value := .agg #[.string ⟨x.toArray⟩, .string ⟨y.toArray⟩]
set_option maxRecDepth 100000 in
set_option maxHeartbeats 2000000 in
theorem ddoAdd (a b r : Txt) (g : Nat) (w : World) (h : DzS w g) (hf : Calls Tryz.prog 50 #[.string ⟨a.toArray⟩, .string ⟨b.toArray⟩] w (Ret w (ans2 (r, 0)))) :
    Calls Tryz.prog 183 #[.pointer (some ⟨g, 0, none⟩), .func (.func 50) #[] #[], .string ⟨a.toArray⟩, .string ⟨b.toArray⟩] w (Ret w (.string ⟨r.toArray⟩)) := by
  have c0 := c1row h
  have H := Lib.hid h
  have HF := Lib.hid hf
  clear h hf
  go_enter Tryz.func183, Tryz.ntmps183
  go_wp2_with fail
  ((with_reducible refine HF.out.mono ?_); rintro e w1 ⟨rfl, hb1⟩)
  have K := Lib.hid (H.out.later hb1)
  have hw := Lib.hid (below_same hb1 K.out)
  have c1 := c1row K.out
  have hf := fun k => free_row K.out k
  clear c0 H HF hb1
  go_wp2
  go_ret
  exact ⟨rfl, hw.out⟩
theorem dadd_c (a b r : Txt) (g : Nat) (w : World) (h : DzS w g) (hf : Calls Tryz.prog 50 #[.string ⟨a.toArray⟩, .string ⟨b.toArray⟩] w (Ret w (ans2 (r, 0)))) :
    Calls Tryz.prog 184 #[.pointer (some ⟨g, 0, none⟩), .string ⟨a.toArray⟩, .string ⟨b.toArray⟩] w (Ret w (.string ⟨r.toArray⟩)) := by
  have HF := Lib.hid (ddoAdd a b r g w h hf)
  clear h hf
  go_enter Tryz.func184, Tryz.ntmps184
  go_wp2_with fail
  ((with_reducible refine HF.out.mono ?_); rintro e w1 ⟨rfl, hb1⟩)
  clear HF
  go_wp2
  go_ret
  exact ⟨rfl, hb1⟩
set_option maxRecDepth 100000 in
set_option maxHeartbeats 2000000 in
theorem ddoSub (a b r : Txt) (g : Nat) (w : World) (h : DzS w g) (hf : Calls Tryz.prog 99 #[.string ⟨a.toArray⟩, .string ⟨b.toArray⟩] w (Ret w (ans2 (r, 0)))) :
    Calls Tryz.prog 183 #[.pointer (some ⟨g, 0, none⟩), .func (.func 99) #[] #[], .string ⟨a.toArray⟩, .string ⟨b.toArray⟩] w (Ret w (.string ⟨r.toArray⟩)) := by
  have c0 := c1row h
  have H := Lib.hid h
  have HF := Lib.hid hf
  clear h hf
  go_enter Tryz.func183, Tryz.ntmps183
  go_wp2_with fail
  ((with_reducible refine HF.out.mono ?_); rintro e w1 ⟨rfl, hb1⟩)
  have K := Lib.hid (H.out.later hb1)
  have hw := Lib.hid (below_same hb1 K.out)
  have c1 := c1row K.out
  have hf := fun k => free_row K.out k
  clear c0 H HF hb1
  go_wp2
  go_ret
  exact ⟨rfl, hw.out⟩
theorem dsub_c (a b r : Txt) (g : Nat) (w : World) (h : DzS w g) (hf : Calls Tryz.prog 99 #[.string ⟨a.toArray⟩, .string ⟨b.toArray⟩] w (Ret w (ans2 (r, 0)))) :
    Calls Tryz.prog 130 #[.pointer (some ⟨g, 0, none⟩), .string ⟨a.toArray⟩, .string ⟨b.toArray⟩] w (Ret w (.string ⟨r.toArray⟩)) := by
  have HF := Lib.hid (ddoSub a b r g w h hf)
  clear h hf
  go_enter Tryz.func130, Tryz.ntmps130
  go_wp2_with fail
  ((with_reducible refine HF.out.mono ?_); rintro e w1 ⟨rfl, hb1⟩)
  clear HF
  go_wp2
  go_ret
  exact ⟨rfl, hb1⟩
set_option maxRecDepth 100000 in
set_option maxHeartbeats 2000000 in
theorem ddoMul (a b r : Txt) (g : Nat) (w : World) (h : DzS w g) (hf : Calls Tryz.prog 137 #[.string ⟨a.toArray⟩, .string ⟨b.toArray⟩] w (Ret w (ans2 (r, 0)))) :
    Calls Tryz.prog 183 #[.pointer (some ⟨g, 0, none⟩), .func (.func 137) #[] #[], .string ⟨a.toArray⟩, .string ⟨b.toArray⟩] w (Ret w (.string ⟨r.toArray⟩)) := by
  have c0 := c1row h
  have H := Lib.hid h
  have HF := Lib.hid hf
  clear h hf
  go_enter Tryz.func183, Tryz.ntmps183
  go_wp2_with fail
  ((with_reducible refine HF.out.mono ?_); rintro e w1 ⟨rfl, hb1⟩)
  have K := Lib.hid (H.out.later hb1)
  have hw := Lib.hid (below_same hb1 K.out)
  have c1 := c1row K.out
  have hf := fun k => free_row K.out k
  clear c0 H HF hb1
  go_wp2
  go_ret
  exact ⟨rfl, hw.out⟩
theorem dmul_c (a b r : Txt) (g : Nat) (w : World) (h : DzS w g) (hf : Calls Tryz.prog 137 #[.string ⟨a.toArray⟩, .string ⟨b.toArray⟩] w (Ret w (ans2 (r, 0)))) :
    Calls Tryz.prog 185 #[.pointer (some ⟨g, 0, none⟩), .string ⟨a.toArray⟩, .string ⟨b.toArray⟩] w (Ret w (.string ⟨r.toArray⟩)) := by
  have HF := Lib.hid (ddoMul a b r g w h hf)
  clear h hf
  go_enter Tryz.func185, Tryz.ntmps185
  go_wp2_with fail
  ((with_reducible refine HF.out.mono ?_); rintro e w1 ⟨rfl, hb1⟩)
  clear HF
  go_wp2
  go_ret
  exact ⟨rfl, hb1⟩
set_option maxRecDepth 100000 in
set_option maxHeartbeats 4000000 in
theorem dless_c (ax ay bx bY rx ry : Txt) (g : Nat) (w : World) (h : DzS w g) (h1 : ∀ W, Below w.heap.size w W → Calls Tryz.prog 99 #[.string ⟨ax.toArray⟩, .string ⟨bx.toArray⟩] W (Ret W (ans2 (rx, 0)))) (h2 : ∀ W, Below w.heap.size w W → Calls Tryz.prog 99 #[.string ⟨ay.toArray⟩, .string ⟨bY.toArray⟩] W (Ret W (ans2 (ry, 0)))) :
    Calls Tryz.prog 131 #[.pointer (some ⟨g, 0, none⟩), plV ax ay, plV bx bY] w (Ret w (plV rx ry)) := by
  have HX := Lib.hid (fun W (k : Below w.heap.size w W) => dsub_c ax bx rx g W (h.later k) (h1 W k))
  have HY := Lib.hid (fun W (k : Below w.heap.size w W) => dsub_c ay bY ry g W (h.later k) (h2 W k))
  have HW := Lib.hid ((bxx w (.cells #[.string ⟨ax.toArray⟩, .string ⟨ay.toArray⟩] 87) (.cells #[.string ⟨bx.toArray⟩, .string ⟨bY.toArray⟩] 87)).nx (below_al _ (.cells #[.string ⟨#[]⟩, .string ⟨#[]⟩] 87)))
  have HN := Lib.hid (show (((w.alloc (.cells #[.string ⟨ax.toArray⟩, .string ⟨ay.toArray⟩] 87)).alloc (.cells #[.string ⟨bx.toArray⟩, .string ⟨bY.toArray⟩] 87)).alloc (.cells #[.string ⟨#[]⟩, .string ⟨#[]⟩] 87)).heap[w.heap.size + 1 + 1]? = some (.cells #[.string ⟨#[]⟩, .string ⟨#[]⟩] 87 (0, 0)) by
    have e := heap_alloc_new ((w.alloc (.cells #[.string ⟨ax.toArray⟩, .string ⟨ay.toArray⟩] 87)).alloc (.cells #[.string ⟨bx.toArray⟩, .string ⟨bY.toArray⟩] 87)) (.cells #[.string ⟨#[]⟩, .string ⟨#[]⟩] 87)
    rwa [World.size_alloc, World.size_alloc] at e)
  have HB2 := Lib.hid (keepD (nww w (.cells #[.string ⟨ax.toArray⟩, .string ⟨ay.toArray⟩] 87) #[.string ⟨bx.toArray⟩, .string ⟨bY.toArray⟩] 87) (below_al _ (.cells #[.string ⟨#[]⟩, .string ⟨#[]⟩] 87)))
  have HA2 := Lib.hid (keepD (heap_alloc_new w (.cells #[.string ⟨ax.toArray⟩, .string ⟨ay.toArray⟩] 87)) (bxx _ (.cells #[.string ⟨bx.toArray⟩, .string ⟨bY.toArray⟩] 87) (.cells #[.string ⟨#[]⟩, .string ⟨#[]⟩] 87)))
  clear h h1 h2
  go_enter Tryz.func131, Tryz.ntmps131
  go_upto_region 1 with fail
  generalize ((w.alloc (.cells #[.string ⟨ax.toArray⟩, .string ⟨ay.toArray⟩] 87)).alloc (.cells #[.string ⟨bx.toArray⟩, .string ⟨bY.toArray⟩] 87)).alloc (.cells #[.string ⟨#[]⟩, .string ⟨#[]⟩] 87) = W0 at *
  have HG := Lib.hid (show w.heap.size ≤ w.heap.size + 1 + 1 by omega)
  have HGE := Lib.hid (show w.heap.size < W0.heap.size ∧ w.heap.size + 1 < W0.heap.size ∧ w.heap.size + 1 + 1 < W0.heap.size from ⟨(Array.getElem?_eq_some_iff.1 HA2.out).1, (Array.getElem?_eq_some_iff.1 HB2.out).1, (Array.getElem?_eq_some_iff.1 HN.out).1⟩)
  generalize hg2 : w.heap.size + 1 + 1 = g2 at *
  have HNE := Lib.hid (show w.heap.size ≠ g2 ∧ w.heap.size + 1 ≠ g2 from ⟨by omega, by omega⟩)
  generalize w.heap.size + 1 = g1 at *
  clear hg2
  have HALL := Lib.hid (fun (W : World) (h : Below W0.heap.size W0 W) => by
    obtain ⟨d0, d1⟩ := c2row (keepD HA2.out h)
    obtain ⟨f0, f1⟩ := c2row (keepD HB2.out h)
    exact (⟨d0, d1, f0, f1, h⟩ : W.cell? ⟨w.heap.size, 0, none⟩ = some (.string ⟨ax.toArray⟩) ∧ W.cell? ⟨w.heap.size, 1, none⟩ = some (.string ⟨ay.toArray⟩) ∧ W.cell? ⟨g1, 0, none⟩ = some (.string ⟨bx.toArray⟩) ∧ W.cell? ⟨g1, 1, none⟩ = some (.string ⟨bY.toArray⟩) ∧ Below W0.heap.size W0 W))
  have HALS := Lib.hid (fun (W : World) (h : Below W0.heap.size W0 W) (v u : Value) => by
    obtain ⟨d0, d1⟩ := c2row ((o2row HNE.out.1).trans (keepD HA2.out h))
    obtain ⟨f0, f1⟩ := c2row ((o2row HNE.out.2).trans (keepD HB2.out h))
    exact (⟨d0, d1, f0, f1⟩ : ((W.setCell ⟨g2, 0, none⟩ v).setCell ⟨g2, 1, none⟩ u).cell? ⟨w.heap.size, 0, none⟩ = some (.string ⟨ax.toArray⟩) ∧ ((W.setCell ⟨g2, 0, none⟩ v).setCell ⟨g2, 1, none⟩ u).cell? ⟨w.heap.size, 1, none⟩ = some (.string ⟨ay.toArray⟩) ∧ ((W.setCell ⟨g2, 0, none⟩ v).setCell ⟨g2, 1, none⟩ u).cell? ⟨g1, 0, none⟩ = some (.string ⟨bx.toArray⟩) ∧ ((W.setCell ⟨g2, 0, none⟩ v).setCell ⟨g2, 1, none⟩ u).cell? ⟨g1, 1, none⟩ = some (.string ⟨bY.toArray⟩)))
  have hB : Below W0.heap.size W0 W0 := Below.refl _ _
  go_region_held3 (fun W => W.cell? ⟨w.heap.size, 0, none⟩ = some (.string ⟨ax.toArray⟩) ∧ W.cell? ⟨w.heap.size, 1, none⟩ = some (.string ⟨ay.toArray⟩) ∧ W.cell? ⟨g1, 0, none⟩ = some (.string ⟨bx.toArray⟩) ∧ W.cell? ⟨g1, 1, none⟩ = some (.string ⟨bY.toArray⟩))
    (first | with_reducible exact HALS.out _ B2 _ _ | (with_reducible exact ⟨(HALL.out _ B2).1, (HALL.out _ B2).2.1, (HALL.out _ B2).2.2.1, (HALL.out _ B2).2.2.2.1⟩) | (with_reducible exact ⟨(HALL.out _ B1).1, (HALL.out _ B1).2.1, (HALL.out _ B1).2.2.1, (HALL.out _ B1).2.2.2.1⟩) | (with_reducible exact ⟨(HALL.out _ hB).1, (HALL.out _ hB).2.1, (HALL.out _ hB).2.2.1, (HALL.out _ hB).2.2.2.1⟩) | (with_reducible exact ⟨(HALL.out _ hB.drew).1, (HALL.out _ hB.drew).2.1, (HALL.out _ hB.drew).2.2.1, (HALL.out _ hB.drew).2.2.2.1⟩))
    (first
      | (go_at_call 130; (first | (with_reducible refine (HX.out _ (HW.out.nx hB.drew)).mono ?_) | (with_reducible refine (HX.out _ (HW.out.nx hB)).mono ?_)); rintro e v1 ⟨rfl, hb1⟩; (first | (with_reducible have B1 := hB.drew.nx hb1) | (with_reducible have B1 := hB.nx hb1)))
      | (go_at_call 130; (with_reducible refine (HY.out _ (HW.out.nx B1)).mono ?_); rintro e v2 ⟨rfl, hb2⟩; have B2 := B1.nx hb2; have RN := keepD HN.out B2; obtain ⟨z0, z1⟩ := c2row RN; have hfz := fun k => free_row RN k)
      | fail)
  all_goals
    have hw := HW.out.nx B2
    go_wp2
    refine bodyPost_ret (results_cell_row rfl _ _ g2 87 #[.string ⟨rx.toArray⟩, .string ⟨ry.toArray⟩] (0, 0) _ (by kernel_rfl) (s2row RN) Tryz.underlying87 rfl (by kernel_rfl)) rfl ?_
    exact ⟨rfl, b2row hw HG.out⟩
set_option maxRecDepth 100000 in
set_option maxHeartbeats 4000000 in
theorem ddot_c (ax ay bx bY rx ry r : Txt) (g : Nat) (w : World) (h : DzS w g) (h1 : ∀ W, Below w.heap.size w W → Calls Tryz.prog 137 #[.string ⟨ax.toArray⟩, .string ⟨bx.toArray⟩] W (Ret W (ans2 (rx, 0)))) (h2 : ∀ W, Below w.heap.size w W → Calls Tryz.prog 137 #[.string ⟨ay.toArray⟩, .string ⟨bY.toArray⟩] W (Ret W (ans2 (ry, 0))))
    (h3 : ∀ W, Below w.heap.size w W → Calls Tryz.prog 50 #[.string ⟨rx.toArray⟩, .string ⟨ry.toArray⟩] W (Ret W (ans2 (r, 0)))) :
    Calls Tryz.prog 132 #[.pointer (some ⟨g, 0, none⟩), plV ax ay, plV bx bY] w (Ret w (.string ⟨r.toArray⟩)) := by
  have HX := Lib.hid (fun W (k : Below w.heap.size w W) => dmul_c ax bx rx g W (h.later k) (h1 W k))
  have HY := Lib.hid (fun W (k : Below w.heap.size w W) => dmul_c ay bY ry g W (h.later k) (h2 W k))
  have HZ := Lib.hid (fun W (k : Below w.heap.size w W) => dadd_c rx ry r g W (h.later k) (h3 W k))
  have HW := Lib.hid (bxx w (.cells #[.string ⟨ax.toArray⟩, .string ⟨ay.toArray⟩] 87) (.cells #[.string ⟨bx.toArray⟩, .string ⟨bY.toArray⟩] 87))
  have HB2 := Lib.hid (nww w (.cells #[.string ⟨ax.toArray⟩, .string ⟨ay.toArray⟩] 87) #[.string ⟨bx.toArray⟩, .string ⟨bY.toArray⟩] 87)
  have HA2 := Lib.hid (keepD (heap_alloc_new w (.cells #[.string ⟨ax.toArray⟩, .string ⟨ay.toArray⟩] 87)) (below_al _ (.cells #[.string ⟨bx.toArray⟩, .string ⟨bY.toArray⟩] 87)))
  clear h h1 h2 h3
  go_enter Tryz.func132, Tryz.ntmps132
  go_upto_region 1 with fail
  generalize (w.alloc (.cells #[.string ⟨ax.toArray⟩, .string ⟨ay.toArray⟩] 87)).alloc (.cells #[.string ⟨bx.toArray⟩, .string ⟨bY.toArray⟩] 87) = W0 at *
  generalize w.heap.size + 1 = g1 at *
  have HALL := Lib.hid (fun (W : World) (h : Below W0.heap.size W0 W) => by
    obtain ⟨d0, d1⟩ := c2row (keepD HA2.out h)
    obtain ⟨f0, f1⟩ := c2row (keepD HB2.out h)
    exact (⟨d0, d1, f0, f1, h⟩ : W.cell? ⟨w.heap.size, 0, none⟩ = some (.string ⟨ax.toArray⟩) ∧ W.cell? ⟨w.heap.size, 1, none⟩ = some (.string ⟨ay.toArray⟩) ∧ W.cell? ⟨g1, 0, none⟩ = some (.string ⟨bx.toArray⟩) ∧ W.cell? ⟨g1, 1, none⟩ = some (.string ⟨bY.toArray⟩) ∧ Below W0.heap.size W0 W))
  have hB : Below W0.heap.size W0 W0 := Below.refl _ _
  go_region_held3 (fun W => W.cell? ⟨w.heap.size, 0, none⟩ = some (.string ⟨ax.toArray⟩) ∧ W.cell? ⟨w.heap.size, 1, none⟩ = some (.string ⟨ay.toArray⟩) ∧ W.cell? ⟨g1, 0, none⟩ = some (.string ⟨bx.toArray⟩) ∧ W.cell? ⟨g1, 1, none⟩ = some (.string ⟨bY.toArray⟩) ∧ Below W0.heap.size W0 W)
    (first | with_reducible exact HALL.out _ B3 | with_reducible exact HALL.out _ B2 | with_reducible exact HALL.out _ B1 | with_reducible exact HALL.out _ hB | with_reducible exact HALL.out _ hB.drew)
    (first
      | (go_at_call 184; (with_reducible refine (HZ.out _ (HW.out.nx B2)).mono ?_); rintro e v3 ⟨rfl, hb3⟩; have B3 := B2.nx hb3)
      | (go_at_call 185; (first | (with_reducible refine (HX.out _ (HW.out.nx hB.drew)).mono ?_) | (with_reducible refine (HX.out _ (HW.out.nx hB)).mono ?_)); rintro e v1 ⟨rfl, hb1⟩; (first | (with_reducible have B1 := hB.drew.nx hb1) | (with_reducible have B1 := hB.nx hb1)))
      | (go_at_call 185; (with_reducible refine (HY.out _ (HW.out.nx B1)).mono ?_); rintro e v2 ⟨rfl, hb2⟩; have B2 := B1.nx hb2)
      | fail)
  all_goals
    have hw := HW.out.nx B3
    go_wp2
    go_ret
    exact ⟨rfl, hw⟩
end Go.Proofs.Wk
/- DISCS: distances, orders, checks, what a disc contains. -/
namespace Go.Proofs.Wk
open Go.RowKit Mt Po

theorem u8_ne {c : UInt8} (h : c ≠ 45) : ¬ (c.toNat : Int) = 45 := fun e => h (by
  apply UInt8.toNat_inj.1
  show c.toNat = 45
  omega)
set_option maxRecDepth 100000 in
set_option maxHeartbeats 4000000 in
theorem dfar_c (ax ay bx bY dx dy r : Txt) (g : Nat) (w : World) (h1 : ∀ W, Below w.heap.size w W → Calls Tryz.prog 131 #[.pointer (some ⟨g, 0, none⟩), plV ax ay, plV bx bY] W (Ret W (plV dx dy)))
    (h2 : ∀ W, Below w.heap.size w W → Calls Tryz.prog 132 #[.pointer (some ⟨g, 0, none⟩), plV dx dy, plV dx dy] W (Ret W (.string ⟨r.toArray⟩))) :
    Calls Tryz.prog 77 #[.pointer (some ⟨g, 0, none⟩), plV ax ay, plV bx bY] w (Ret w (.string ⟨r.toArray⟩)) := by
  have H1 := Lib.hid h1
  have H2 := Lib.hid h2
  have hal := bxx w (.cells #[.string ⟨ax.toArray⟩, .string ⟨ay.toArray⟩] 87) (.cells #[.string ⟨bx.toArray⟩, .string ⟨bY.toArray⟩] 87)
  clear h1 h2
  go_enter Tryz.func77, Tryz.ntmps77
  go_wp2_with fail
  ((with_reducible refine (H1.out _ hal).mono ?_); rintro e w1 ⟨rfl, hb1⟩)
  have hw := (hal.nx hb1).nx (below_al w1 (.cells #[.string ⟨dx.toArray⟩, .string ⟨dy.toArray⟩] 87))
  clear hal hb1 H1
  go_wp2_with fail
  ((with_reducible refine (H2.out _ hw).mono ?_); rintro e w2 ⟨rfl, hb2⟩)
  have hw2 := hw.nx hb2
  clear hw hb2 H2
  go_wp2
  go_ret
  exact ⟨rfl, hw2⟩
set_option maxRecDepth 100000 in
set_option maxHeartbeats 4000000 in
theorem droot_c (a b c : Txt) (n : Int) (g : Nat) (w : World) (h : DzS w g) (hf : Calls Tryz.prog 182 #[.string ⟨a.toArray⟩, .string ⟨b.toArray⟩, .string ⟨c.toArray⟩] w (Ret w (.tuple #[.int .i64 n, .int .i64 0]))) :
    Calls Tryz.prog 129 #[.pointer (some ⟨g, 0, none⟩), .string ⟨a.toArray⟩, .string ⟨b.toArray⟩, .string ⟨c.toArray⟩] w (Ret w (.int .i64 n)) := by
  have c0 := c1row h
  have H := Lib.hid h
  have HF := Lib.hid hf
  clear h hf
  go_enter Tryz.func129, Tryz.ntmps129
  go_wp2_with fail
  ((with_reducible refine HF.out.mono ?_); rintro e w1 ⟨rfl, hb1⟩)
  have K := Lib.hid (H.out.later hb1)
  have hw := Lib.hid (below_same hb1 K.out)
  have c1 := c1row K.out
  have hf := fun k => free_row K.out k
  clear c0 H HF hb1
  go_wp2
  go_ret
  exact ⟨rfl, hw.out⟩
set_option maxRecDepth 100000 in
set_option maxHeartbeats 4000000 in
theorem dorder_c (a b d : Txt) (n : Int) (g : Nat) (w : World) (h1 : Calls Tryz.prog 130 #[.pointer (some ⟨g, 0, none⟩), .string ⟨a.toArray⟩, .string ⟨b.toArray⟩] w (Ret w (.string ⟨d.toArray⟩)))
    (h2 : ∀ W, Below w.heap.size w W → Calls Tryz.prog 129 #[.pointer (some ⟨g, 0, none⟩), .string ⟨d.toArray⟩, .string ⟨#[48]⟩, .string ⟨#[48]⟩] W (Ret W (.int .i64 n))) :
    Calls Tryz.prog 76 #[.pointer (some ⟨g, 0, none⟩), .string ⟨a.toArray⟩, .string ⟨b.toArray⟩] w (Ret w (.int .i64 n)) := by
  have H1 := Lib.hid h1
  have H2 := Lib.hid h2
  clear h1 h2
  go_enter Tryz.func76, Tryz.ntmps76
  go_wp2_with fail
  ((with_reducible refine H1.out.mono ?_); rintro e w1 ⟨rfl, hb1⟩)
  clear H1
  go_wp2_with fail
  ((with_reducible refine (H2.out _ hb1).mono ?_); rintro e w2 ⟨rfl, hb2⟩)
  have hw := hb1.nx hb2
  clear H2 hb1 hb2
  go_wp2
  go_ret
  exact ⟨rfl, hw⟩
set_option maxRecDepth 100000 in
set_option maxHeartbeats 4000000 in
theorem dCheck_c (cx cy sq : Txt) (c : UInt8) (l : Txt) (hq : sq = c :: l) (hc : c ≠ 45) (w : World) (H : ∀ t, t = cx ∨ t = cy ∨ t = sq → ∀ W, Below w.heap.size w W → Calls Tryz.prog 75 #[.string ⟨t.toArray⟩] W (Ret W (.int .i64 0))) :
    Calls Tryz.prog 74 #[.agg #[.string ⟨cx.toArray⟩, .string ⟨cy.toArray⟩, .string ⟨sq.toArray⟩]] w (Ret w (.int .i64 0)) := by
  have hix : ∀ W, (Instr.index 35 (.string ⟨sq.toArray⟩) (.int .i64 0)).run Tryz.prog W = .ok (.int .u8 (c.toNat : Int)) W := fun W => by
    subst hq
    rw [run_index_string _ _ _ _ _ Tryz.underlying35, dif_pos ⟨Int.le_refl _, by rw [size_mk]; simp⟩]
    rfl
  have hne : ¬ (c.toNat : Int) = 45 := u8_ne hc
  have hne2 : ((c.toNat : Int) == 45) = false := by simpa using hne
  have hal := bxx w (.cells #[.string ⟨cx.toArray⟩, .string ⟨cy.toArray⟩, .string ⟨sq.toArray⟩] 90) (.cells #[.string ⟨cx.toArray⟩, .string ⟨cy.toArray⟩, .string ⟨sq.toArray⟩] 35)
  have hA := keepD (heap_alloc_new w (.cells #[.string ⟨cx.toArray⟩, .string ⟨cy.toArray⟩, .string ⟨sq.toArray⟩] 90)) (below_al _ (.cells #[.string ⟨cx.toArray⟩, .string ⟨cy.toArray⟩, .string ⟨sq.toArray⟩] 35))
  have hB := nww w (.cells #[.string ⟨cx.toArray⟩, .string ⟨cy.toArray⟩, .string ⟨sq.toArray⟩] 90) #[.string ⟨cx.toArray⟩, .string ⟨cy.toArray⟩, .string ⟨sq.toArray⟩] 35
  have HH := Lib.hid H
  have HIX := Lib.hid hix
  have HNE := Lib.hid hne
  generalize (c.toNat : Int) = k at *
  clear H hix hq hc hne hne2
  go_enter Tryz.func74, Tryz.ntmps74
  go_upto_region 2 with fail
  generalize (w.alloc (.cells #[.string ⟨cx.toArray⟩, .string ⟨cy.toArray⟩, .string ⟨sq.toArray⟩] 90)).alloc (.cells #[.string ⟨cx.toArray⟩, .string ⟨cy.toArray⟩, .string ⟨sq.toArray⟩] 35) = W0 at *
  generalize w.heap.size + 1 = g1 at *
  have HW := Lib.hid hal
  have HA := Lib.hid hA
  have HC : Hid (∀ i, i < 3 → ∃ t, (∀ W, Below W0.heap.size W0 W → W.cell? ⟨g1, i, none⟩ = some (.string ⟨(t : Txt).toArray⟩)) ∧ ∀ W, Below w.heap.size w W → Calls Tryz.prog 75 #[.string ⟨t.toArray⟩] W (Ret W (.int .i64 0))) := Lib.hid (fun i hi => by
    obtain rfl | rfl | rfl : i = 0 ∨ i = 1 ∨ i = 2 := by omega
    · exact ⟨cx, fun W h => (c3row (keepD hB h)).1, HH.out cx (Or.inl rfl)⟩
    · exact ⟨cy, fun W h => (c3row (keepD hB h)).2.1, HH.out cy (Or.inr (Or.inl rfl))⟩
    · exact ⟨sq, fun W h => (c3row (keepD hB h)).2.2, HH.out sq (Or.inr (Or.inr rfl))⟩)
  clear hal hA hB HH
  go_loopw [16] (fun si wr => ∃ i : Nat, si = .int .i64 (i : Int) ∧ i ≤ 3 ∧ Hid (Below W0.heap.size W0 wr)) (fun si _ => 3 - (intOf si).toNat)
  case atStart => exact ⟨0, rfl, Nat.zero_le _, Below.refl _ _⟩
  case round =>
    obtain ⟨i, rfl, hi, hB⟩ := hrel
    by_cases hlt : i < 3
    · obtain ⟨tx, hcell, hchk⟩ := HC.out i hlt
      have c0 := hcell _ hB.out
      have HK := Lib.hid (hchk _ (HW.out.nx hB.out))
      have j0 : (i : Int) < 3 := by omega
      have j1 : (0 : Int) ≤ (i : Int) := by omega
      clear hcell hchk
      go_wp2_with fail
      ((with_reducible refine HK.out.mono ?_); rintro e w1 ⟨rfl, hb1⟩)
      have HB1 := Lib.hid (hB.out.nx hb1)
      clear c0 HK hb1
      go_wp2
      go_roundw
      case rel => exact ⟨i + 1, by go_num, by omega, HB1.out⟩
      case measure => simp [intOf]; omega
    · obtain rfl : i = 3 := by omega
      have hw := HW.out.nx hB.out
      obtain ⟨d0, d1, d2⟩ := c3row (keepD HA.out hB.out)
      have hix := HIX.out
      have hne := HNE.out
      have hne2 : (k == 45) = false := by simpa using hne
      have hne3 : decide (k = 45) = false := decide_eq_false hne
      go_wp2
      go_ret
      exact ⟨rfl, hw⟩
set_option maxRecDepth 100000 in
set_option maxHeartbeats 8000000 in
theorem dContains_c (cx cy sq px py f : Txt) (n : Int) (w : World) (HC : ∀ W, Below w.heap.size w W → Calls Tryz.prog 74 #[.agg #[.string ⟨cx.toArray⟩, .string ⟨cy.toArray⟩, .string ⟨sq.toArray⟩]] W (Ret W (.int .i64 0)))
    (H : ∀ t, t = px ∨ t = py → ∀ W, Below w.heap.size w W → Calls Tryz.prog 75 #[.string ⟨t.toArray⟩] W (Ret W (.int .i64 0)))
    (HF : ∀ g W, Below w.heap.size w W → DzS W g → Calls Tryz.prog 77 #[.pointer (some ⟨g, 0, none⟩), plV cx cy, plV px py] W (Ret W (.string ⟨f.toArray⟩)))
    (HO : ∀ g W, Below w.heap.size w W → DzS W g → Calls Tryz.prog 76 #[.pointer (some ⟨g, 0, none⟩), .string ⟨f.toArray⟩, .string ⟨sq.toArray⟩] W (Ret W (.int .i64 n))) :
    Calls Tryz.prog 32 #[.agg #[.string ⟨cx.toArray⟩, .string ⟨cy.toArray⟩, .string ⟨sq.toArray⟩], plV px py] w (Ret w (.tuple #[.bool (decide (n ≤ 0)), .int .i64 0])) := by
  obtain ⟨BQ, hBQ⟩ : ∃ B, decide (n ≤ 0) = B := ⟨_, rfl⟩
  rw [hBQ]
  have HBQ := Lib.hid hBQ
  clear hBQ
  have HCC := Lib.hid HC
  have HFF := Lib.hid HF
  have HOO := Lib.hid HO
  have hal := bxx w (.cells #[.string ⟨cx.toArray⟩, .string ⟨cy.toArray⟩, .string ⟨sq.toArray⟩] 90) (.cells #[.string ⟨px.toArray⟩, .string ⟨py.toArray⟩] 87)
  have hA := keepD (heap_alloc_new w (.cells #[.string ⟨cx.toArray⟩, .string ⟨cy.toArray⟩, .string ⟨sq.toArray⟩] 90)) (below_al _ (.cells #[.string ⟨px.toArray⟩, .string ⟨py.toArray⟩] 87))
  have hR := nww w (.cells #[.string ⟨cx.toArray⟩, .string ⟨cy.toArray⟩, .string ⟨sq.toArray⟩] 90) #[.string ⟨px.toArray⟩, .string ⟨py.toArray⟩] 87
  have HH := Lib.hid H
  clear HC HF HO H
  go_enter Tryz.func32, Tryz.ntmps32
  go_wp2_with fail
  ((with_reducible refine (HCC.out _ hal).mono ?_); rintro e w1 ⟨rfl, hb1⟩)
  have h2 := below_al w1 (.cells #[.string ⟨px.toArray⟩, .string ⟨py.toArray⟩] 35)
  have hn := heap_alloc_new w1 (.cells #[.string ⟨px.toArray⟩, .string ⟨py.toArray⟩] 35)
  obtain ⟨p0, p1⟩ := c2row (keepD hR hb1)
  have HA1 := Lib.hid (keepD hA (hb1.nx h2))
  have HR1 := Lib.hid (keepD hR (hb1.nx h2))
  have HW := Lib.hid (hal.nx (hb1.nx h2))
  clear hal hA hR hb1 h2 HCC
  go_upto_region 5 with fail
  clear p0 p1
  generalize w1.alloc (.cells #[.string ⟨px.toArray⟩, .string ⟨py.toArray⟩] 35) = W0 at *
  generalize w1.heap.size = gs at *
  generalize w.heap.size + 1 = g1 at *
  have HC : Hid (∀ i, i < 2 → ∃ t, (∀ W, Below W0.heap.size W0 W → W.cell? ⟨gs, i, none⟩ = some (.string ⟨(t : Txt).toArray⟩)) ∧ ∀ W, Below w.heap.size w W → Calls Tryz.prog 75 #[.string ⟨t.toArray⟩] W (Ret W (.int .i64 0))) := Lib.hid (fun i hi => by
    obtain rfl | rfl : i = 0 ∨ i = 1 := by omega
    · exact ⟨px, fun W h => (c2row (keepD hn h)).1, HH.out px (Or.inl rfl)⟩
    · exact ⟨py, fun W h => (c2row (keepD hn h)).2, HH.out py (Or.inr rfl)⟩)
  clear hn HH
  go_loopw [23] (fun si wr => ∃ i : Nat, si = .int .i64 (i : Int) ∧ i ≤ 2 ∧ Hid (Below W0.heap.size W0 wr)) (fun si _ => 2 - (intOf si).toNat)
  case atStart => exact ⟨0, rfl, Nat.zero_le _, Below.refl _ _⟩
  case round =>
    obtain ⟨i, rfl, hi, hB⟩ := hrel
    by_cases hlt : i < 2
    · obtain ⟨tx, hcell, hchk⟩ := HC.out i hlt
      have c0 := hcell _ hB.out
      have HK := Lib.hid (hchk _ (HW.out.nx hB.out))
      have j0 : (i : Int) < 2 := by omega
      have j1 : (0 : Int) ≤ (i : Int) := by omega
      clear hcell hchk
      go_wp2_with fail
      ((with_reducible refine HK.out.mono ?_); rintro e w1 ⟨rfl, hb1⟩)
      have HB1 := Lib.hid (hB.out.nx hb1)
      clear c0 HK hb1
      go_wp2
      go_roundw
      case rel => exact ⟨i + 1, by go_num, by omega, HB1.out⟩
      case measure => simp [intOf]; omega
    · obtain rfl : i = 2 := by omega
      have hal := below_al wr (.cells #[.int .i64 0] 147)
      have HZ : Hid (DzS (wr.alloc (.cells #[.int .i64 0] 147)) wr.heap.size) := Lib.hid (heap_alloc_new wr (.cells #[.int .i64 0] 147))
      have HB1 := Lib.hid (hB.out.nx hal)
      clear hal hB HC
      go_upto_region 12 with fail
      generalize wr.alloc (.cells #[.int .i64 0] 147) = W1 at *
      generalize wr.heap.size = gz at *
      have HWW := Lib.hid (HW.out.nx HB1.out)
      have HALL := Lib.hid (fun (W : World) (h : Below W1.heap.size W1 W) => (⟨c3row (keepD HA1.out (HB1.out.nx h)), c2row (keepD HR1.out (HB1.out.nx h)), h⟩ : (W.cell? ⟨w.heap.size, 0, none⟩ = some (.string ⟨cx.toArray⟩) ∧ W.cell? ⟨w.heap.size, 1, none⟩ = some (.string ⟨cy.toArray⟩) ∧ W.cell? ⟨w.heap.size, 2, none⟩ = some (.string ⟨sq.toArray⟩)) ∧ (W.cell? ⟨g1, 0, none⟩ = some (.string ⟨px.toArray⟩) ∧ W.cell? ⟨g1, 1, none⟩ = some (.string ⟨py.toArray⟩)) ∧ Below W1.heap.size W1 W))
      have hB : Below W1.heap.size W1 W1 := Below.refl _ _
      go_region_held3 (fun W => (W.cell? ⟨w.heap.size, 0, none⟩ = some (.string ⟨cx.toArray⟩) ∧ W.cell? ⟨w.heap.size, 1, none⟩ = some (.string ⟨cy.toArray⟩) ∧ W.cell? ⟨w.heap.size, 2, none⟩ = some (.string ⟨sq.toArray⟩)) ∧ (W.cell? ⟨g1, 0, none⟩ = some (.string ⟨px.toArray⟩) ∧ W.cell? ⟨g1, 1, none⟩ = some (.string ⟨py.toArray⟩)) ∧ Below W1.heap.size W1 W)
        (first | with_reducible exact HALL.out _ B2 | with_reducible exact HALL.out _ B1 | with_reducible exact HALL.out _ hB | with_reducible exact HALL.out _ hB.drew)
        (first
          | (go_at_call 77; (first | (with_reducible refine (HFF.out gz _ (HWW.out.nx hB.drew) (HZ.out.later hB.drew)).mono ?_) | (with_reducible refine (HFF.out gz _ (HWW.out.nx hB) (HZ.out.later hB)).mono ?_)); rintro e v1 ⟨rfl, hb1⟩; (first | (with_reducible have B1 := hB.drew.nx hb1) | (with_reducible have B1 := hB.nx hb1)))
          | (go_at_call 76; (with_reducible refine (HOO.out gz _ (HWW.out.nx B1) (HZ.out.later B1)).mono ?_); rintro e v2 ⟨rfl, hb2⟩; have B2 := B1.nx hb2)
          | fail)
      all_goals
        have hz := c1row (HZ.out.later B2)
        have hw := HWW.out.nx B2
        clear hb1 hb2 B1 B2 hB HALL
        go_upto_region 13 with fail
        rw [HBQ.out]
        clear HBQ
        rcases (show BQ = true ∨ BQ = false by cases BQ <;> simp) with rfl | rfl
        · go_region
          all_goals
            go_wp2
            go_ret2
            exact ⟨rfl, hw.drew⟩
        · go_region
          all_goals
            go_wp2
            go_ret2
            exact ⟨rfl, hw.drew⟩
end Go.Proofs.Wk
/- DISCS: a disc around a point with integers, whose radius is half an integer. -/
namespace Go.Proofs.Wk
open Go.RowKit Mt Po

theorem half_sq (n : Int) (h : Rat) (hh : h = Rat.divInt n 2) : h + h = (n : Rat) := by
  subst hh
  rw [Rat.divInt_eq_div, Rat.div_def, ← Rat.mul_add]
  rw [show ((2 : Int) : Rat)⁻¹ + ((2 : Int) : Rat)⁻¹ = 1 by decide +kernel, Rat.mul_one]
theorem four_diff (tx ty cx cy n : Int) (h : Rat) (hh : h + h = (n : Rat)) :
    4 * ((((tx : Rat) - (cx : Rat)) * ((tx : Rat) - (cx : Rat)) + ((ty : Rat) - (cy : Rat)) * ((ty : Rat) - (cy : Rat))) - h * h) = ((4 * ((cx - tx) * (cx - tx) + (cy - ty) * (cy - ty)) - n * n : Int) : Rat) := by
  have e : (n : Rat) * (n : Rat) = 4 * (h * h) := by rw [← hh]; grind
  rw [Rat.intCast_sub, Rat.intCast_mul, Rat.intCast_mul, e]
  rw [Rat.intCast_add, Rat.intCast_mul, Rat.intCast_mul, Rat.intCast_sub, Rat.intCast_sub]
  grind
theorem sq_0 (q : Rat) : 0 ≤ q * q := by
  rcases (Rat.le_total : (0 : Rat) ≤ q ∨ q ≤ 0) with h | h
  · exact Rat.mul_nonneg h h
  · have h1 : 0 ≤ -q := by grind
    have h2 := Rat.mul_nonneg h1 h1
    grind
theorem rootQ_00 (x : Rat) : rootQ x 0 0 = sgnQ x := by
  unfold rootQ
  rw [show sgnQ 0 = 0 from sgnQ_zero, Int.zero_mul, Int.mul_zero, if_pos (by omega)]
  split
  · rename_i h; exact h.symm
  · rfl
theorem quarter (x : Rat) (M : Int) (h : 4 * x = (M : Rat)) : x = Rat.divInt M 4 := by
  rw [Rat.divInt_eq_div, ← h, Rat.div_def]
  have e : (4 : Rat) * ((4 : Int) : Rat)⁻¹ = 1 := by decide +kernel
  grind
theorem sgn_le (M : Int) : sgn M ≤ 0 ↔ M ≤ 0 := by
  rcases cmp_spec M 0 with ⟨h1, h2⟩ | ⟨h1, h2⟩ | ⟨h1, h2⟩
  · have : sgn M = -1 := h2
    omega
  · have : sgn M = 0 := h2
    omega
  · have : sgn M = 1 := h2
    omega
set_option maxRecDepth 100000 in
set_option maxHeartbeats 2000000 in
theorem dSignRoot_ok (a : Rat) (w : World) (hg : Good w) (ha : szQ a 30) :
    Calls Tryz.prog 182 #[.string ⟨(rtoa a).toArray⟩, .string ⟨#[48]⟩, .string ⟨#[48]⟩] w (Ret w (.tuple #[.int .i64 (sgnQ a), .int .i64 0])) := by
  have hs := fun W hW => qSignRoots_ok a 0 0 0 0 W hW ha (szQ_zero.mono (by omega)) (szQ_zero.mono (by omega)) (szQ_zero.mono (by omega)) (szQ_zero.mono (by omega))
  have e : (if (0 : Rat) < 0 ∨ (0 : Rat) < 0 then ((0 : Int), (2 : Int)) else (rootsQ a 0 0 0 0, 0)) = (sgnQ a, 0) := by
    rw [if_neg (by simp [Rat.lt_irrefl])]
    unfold rootsQ
    rw [show sgnQ 0 = 0 from sgnQ_zero, Int.zero_mul, Int.mul_zero, if_pos (by omega), rootQ_00]
    split
    · rename_i h; rw [h]
    · rfl
  rw [e, rtoa_zero] at hs
  have HS := Lib.hid hs
  have HG := Lib.hid hg
  have hB0 := Below.refl w.heap.size w
  clear hs ha hg e
  generalize sgnQ a = r at *
  generalize rtoa a = ta at *
  go_enter Tryz.func182, Tryz.ntmps182
  go_wp2_with fail
  ((with_reducible refine (HS.out _ (HG.out.later hB0)).mono ?_); rintro e w1 ⟨rfl, hb1⟩)
  have hB1 := hB0.trans (hb1.mono hB0.size); clear hb1
  go_wp2
  go_ret2
  exact ⟨rfl, hB1⟩
theorem contains_ok (tx ty cx cy n : Int) (htx : -100000 ≤ tx ∧ tx ≤ 100000) (hty : -100000 ≤ ty ∧ ty ≤ 100000) (hcx : -100000 ≤ cx ∧ cx ≤ 100000) (hcy : -100000 ≤ cy ∧ cy ≤ 100000) (hn : 0 ≤ n ∧ n ≤ 200000) (w : World) (hg : Good w) :
    Calls Tryz.prog 32 #[.agg #[.string ⟨(rtoa (tx : Rat)).toArray⟩, .string ⟨(rtoa (ty : Rat)).toArray⟩, .string ⟨(rtoa (Rat.divInt n 2 * Rat.divInt n 2)).toArray⟩], plV (rtoa (cx : Rat)) (rtoa (cy : Rat))] w
      (Ret w (.tuple #[.bool (decide (4 * ((cx - tx) * (cx - tx) + (cy - ty) * (cy - ty)) ≤ n * n)), .int .i64 0])) := by
  obtain ⟨h, hh⟩ : ∃ h, h = Rat.divInt n 2 := ⟨_, rfl⟩
  rw [← hh]
  have z1 := szV_co htx
  have z2 := szV_co hty
  have z3 := szV_co hcx
  have z4 := szV_co hcy
  have zh : szV h 1 5 := by rw [hh]; exact szV_divInt ((lng_le n (k := 6) (by omega)).2 (by omega)) ((lng_le 2 (k := 1) (by omega)).2 (by decide)) (by decide)
  have zhh : szV (h * h) 2 10 := szV_mul zh zh
  have zx := szV_sub z1 z3 (Nat.le_refl _) (Nat.le_refl _)
  have zy := szV_sub z2 z4 (Nat.le_refl _) (Nat.le_refl _)
  have zxx := szV_mul zx zx
  have zyy := szV_mul zy zy
  have zf := szV_add zxx zyy (Nat.le_refl _) (Nat.le_refl _)
  have hfour := four_diff tx ty cx cy n h (half_sq n h hh)
  obtain ⟨f, hf⟩ : ∃ f, ((tx : Rat) - (cx : Rat)) * ((tx : Rat) - (cx : Rat)) + ((ty : Rat) - (cy : Rat)) * ((ty : Rat) - (cy : Rat)) = f := ⟨_, rfl⟩
  have hq1 := sqb (a := cx - tx) (A := 200000) (by omega) (by omega)
  have hq2 := sqb (a := cy - ty) (A := 200000) (by omega) (by omega)
  have hq3 := sqb (a := n) (A := 200000) (by omega) (by omega)
  obtain ⟨M, hM⟩ : ∃ M, 4 * ((cx - tx) * (cx - tx) + (cy - ty) * (cy - ty)) - n * n = M := ⟨_, rfl⟩
  rw [hf, hM] at hfour
  have hMb : -1000000000000 ≤ M ∧ M ≤ 1000000000000 := by rw [← hM]; omega
  have zM : szQ (f - h * h) 30 := by
    rw [quarter _ M hfour]
    exact (szV_divInt (d := 1) (v := 13) ((lng_le M (k := 14) (by omega)).2 (by omega)) ((lng_le 4 (k := 1) (by omega)).2 (by decide)) (by decide)).sz.mono (by omega)
  have hs : sgnQ (f - h * h) = sgn M := by rw [← sgnQ_scale (K := 4) (by decide +kernel), hfour, sgnQ_int]
  have hB : decide (sgnQ (f - h * h) ≤ 0) = decide (4 * ((cx - tx) * (cx - tx) + (cy - ty) * (cy - ty)) ≤ n * n) := by
    rw [hs]
    exact decide_eq_decide.2 ((sgn_le M).trans (by rw [← hM]; omega))
  rw [← hB]
  obtain ⟨c, l, e1, e2⟩ := rtoa_first (sq_0 h)
  have hck : ∀ {q : Rat} {d v : Nat}, szV q d v → d + v ≤ 1024 → ∀ W, Good W → Calls Tryz.prog 75 #[.string ⟨(rtoa q).toArray⟩] W (Ret W (.int .i64 0)) := fun {q d v} hz hk W hW => by
    have := qCheck_c (rtoa q) W hW (tlen (hz.okq hk))
    rwa [rchk_rtoa (hz.okq hk)] at this
  refine dContains_c (rtoa (tx : Rat)) (rtoa (ty : Rat)) (rtoa (h * h)) (rtoa (cx : Rat)) (rtoa (cy : Rat)) (rtoa f) (sgnQ (f - h * h)) w (fun W k => dCheck_c _ _ _ c l e1 e2 W (fun t ht W' k' => ?_)) (fun t ht W k => ?_) (fun g W k hz => ?_) (fun g W k hz => ?_)
  · rcases ht with rfl | rfl | rfl
    · exact hck z1 (by omega) W' (hg.later (k.nx k'))
    · exact hck z2 (by omega) W' (hg.later (k.nx k'))
    · exact hck zhh (by omega) W' (hg.later (k.nx k'))
  · rcases ht with rfl | rfl
    · exact hck z3 (by omega) W (hg.later k)
    · exact hck z4 (by omega) W (hg.later k)
  · refine dfar_c _ _ _ _ (rtoa ((tx : Rat) - (cx : Rat))) (rtoa ((ty : Rat) - (cy : Rat))) _ g W (fun W1 k1 => ?_) (fun W1 k1 => ?_)
    · exact dless_c _ _ _ _ _ _ g W1 (hz.later k1) (fun W2 k2 => subR z1 z3 (m := 5) (Nat.le_refl _) (Nat.le_refl _) (by omega) W2 (hg.later (k.nx (k1.nx k2)))) (fun W2 k2 => subR z2 z4 (m := 5) (Nat.le_refl _) (Nat.le_refl _) (by omega) W2 (hg.later (k.nx (k1.nx k2))))
    · rw [← hf]
      exact ddot_c _ _ _ _ _ _ _ g W1 (hz.later k1) (fun W2 k2 => mulR zx zx (by omega) W2 (hg.later (k.nx (k1.nx k2)))) (fun W2 k2 => mulR zy zy (by omega) W2 (hg.later (k.nx (k1.nx k2)))) (fun W2 k2 => addR zxx zyy (Nat.le_refl _) (Nat.le_refl _) (by omega) W2 (hg.later (k.nx (k1.nx k2))))
  · rw [hf] at zf
    refine dorder_c _ _ (rtoa (f - h * h)) _ g W (dsub_c _ _ _ g W hz (subR zf zhh (m := 13) (by omega) (by omega) (by omega) W (hg.later k))) (fun W1 k1 => droot_c _ _ _ _ g W1 (hz.later k1) ?_)
    exact dSignRoot_ok _ W1 (hg.later (k.nx k1)) zM
end Go.Proofs.Wk
