/- THE PROGRAM's RATIONAL NUMBERS: signs of sums with square roots. -/
import Derived.Test.YtenoganbeccanaaGreatDoorHI
import Derived.Test.YtenoganbeccanaaGreatDoorHB
namespace Go.Proofs.Wk
open Go.RowKit Mt

/-- Products of few short factors. -/
theorem mulS_small : ∀ (ns : List Int) (p : Int) (k j : Nat), lng p ≤ k → (∀ n ∈ ns, lng n ≤ j) → k + ns.length * j ≤ 1024 → mulS ns (p, true) = (ns.foldl (· * ·) p, true) ∧ lng (ns.foldl (· * ·) p) ≤ k + ns.length * j
  | [], p, k, j, hp, _, _ => ⟨rfl, by simpa using hp⟩
  | a :: t, p, k, j, hp, hn, hk => by
    have ha := hn a (by simp)
    have h1 := lng_mul p a hp ha
    have hj : (a :: t).length * j = j + t.length * j := by rw [List.length_cons, Nat.succ_mul]; omega
    obtain ⟨e1, e2⟩ := mulS_small t (p * a) (k + j) j h1 (fun n h => hn n (by simp [h])) (by omega)
    refine ⟨?_, by rw [hj]; show lng (t.foldl (· * ·) (p * a)) ≤ _; omega⟩
    show mulS t (dk (p * a) true) = _
    rw [dk_ok (lng_big_iff.1 (by omega)), e1]; rfl
theorem mulT (ns : List Int) (j : Nat) (r : Int) (cs : Array Value) (k g : Nat) (w0 W : World) (N : Nat) (T : TypeId) (S : Sv w0 g true W) (hN : W.heap.size = N) (hcs : cs = ((ns.map Lib.itoa).map txt).toArray) (hk : ns.length = k) (hk5 : k ≤ 5) (hb : ∀ n ∈ ns, lng n ≤ j) (hj : 1 + k * j ≤ 1024)
    (hr : ns.foldl (· * ·) 1 = r) :
    Calls Tryz.prog 71 #[.pointer (some ⟨g, 0, none⟩), .slice (some ⟨N, 0, none⟩) k k] (W.alloc (.cells cs T)) (Svs w0 g true (.string ⟨(Lib.itoa r).toArray⟩)) := by
  subst hN
  have h := mulL ns cs k g true w0 W T S hcs hk hk5 (fun n hn => lng_big_iff.1 (by
    have := hb n hn
    have h1 : 1 ≤ k := by rw [← hk]; exact List.length_pos_of_mem hn
    have h2 : j ≤ k * j := Nat.le_mul_of_pos_left _ h1
    omega))
  have e := (mulS_small ns 1 1 j lng_one hb (by rw [hk]; exact hj)).1
  rw [e, hr] at h
  exact h
theorem addT (x y r : Int) (k g : Nat) (w0 W : World) (S : Sv w0 g true W) (hx : lng x ≤ k) (hy : lng y ≤ k) (hk : k < 1024) (hr : x + y = r) :
    Calls Tryz.prog 70 #[.pointer (some ⟨g, 0, none⟩), .string ⟨(Lib.itoa x).toArray⟩, .string ⟨(Lib.itoa y).toArray⟩] W (Svs w0 g true (.string ⟨(Lib.itoa r).toArray⟩)) := by
  have h := addL x y g true w0 W S (lng_big_iff.1 (by omega)) (lng_big_iff.1 (by omega))
  have h2 := lng_add x y hx hy
  rwa [dk_ok (lng_big_iff.1 (by omega)), hr] at h
theorem subT (x y r : Int) (k g : Nat) (w0 W : World) (S : Sv w0 g true W) (hx : lng x ≤ k) (hy : lng y ≤ k) (hk : k < 1024) (hr : x - y = r) :
    Calls Tryz.prog 74 #[.pointer (some ⟨g, 0, none⟩), .string ⟨(Lib.itoa x).toArray⟩, .string ⟨(Lib.itoa y).toArray⟩] W (Svs w0 g true (.string ⟨(Lib.itoa r).toArray⟩)) := by
  have h := subL x y g true w0 W S (lng_big_iff.1 (by omega)) (lng_big_iff.1 (by omega))
  have h2 := lng_subk hx hy
  rwa [dk_ok (lng_big_iff.1 (by omega)), hr] at h
set_option maxRecDepth 100000 in
theorem sgnL (x : Int) (g : Nat) (w0 W : World) (S : Sv w0 g true W) (hx : lng x ≤ 1024) :
    Calls Tryz.prog 121 #[.pointer (some ⟨g, 0, none⟩), .string ⟨(Lib.itoa x).toArray⟩] W (Svs w0 g true (.int .i64 (sgn x))) := by
  have HI := Lib.hid (fun W => signI x W hx)
  have HS := Lib.hid S
  have c0 := S.st.c0
  rw [show ecode true = 0 from rfl] at c0
  clear hx S
  generalize sgn x = s at *
  generalize Lib.itoa x = tx at *
  go_enter Tryz.func121, Tryz.ntmps121
  go_wp2_with fail
  ((with_reducible refine (HI.out _).mono ?_); rintro e w1 ⟨rfl, hb1⟩)
  have S1 := HS.out.later hb1
  have c1 := S1.st.c0
  have f1 := S1.st.free 0
  have S2 := Lib.hid (S1.step (S1.st.set true rfl) (gb_set (gb_refl w1 (some g)) 0 (.int .i64 (ecode true))))
  clear hb1 S1 c0
  go_wp2
  go_ret
  exact ⟨rfl, S2.out⟩
theorem sgn_bd (x : Int) : -1 ≤ sgn x ∧ sgn x ≤ 1 := by have := cmp_spec x 0; unfold sgn; omega
theorem mul_bd2 {a b : Int} (ha : -1 ≤ a ∧ a ≤ 1) (hb : -1 ≤ b ∧ b ≤ 1) : -1 ≤ a * b ∧ a * b ≤ 1 := by
  have h1 : a = -1 ∨ a = 0 ∨ a = 1 := by omega
  rcases h1 with rfl | rfl | rfl <;> omega
theorem rootI_bd (x y r : Int) : -1 ≤ rootI x y r ∧ rootI x y r ≤ 1 := by
  unfold rootI
  split
  · split
    · exact sgn_bd x
    · exact mul_bd2 (sgn_bd y) (sgn_bd r)
  · exact mul_bd2 (sgn_bd x) (sgn_bd _)
theorem fold2 (x y : Int) : [x, y].foldl (· * ·) 1 = x * y := by show 1 * x * y = _; rw [Int.one_mul]
theorem fold3 (x y z : Int) : [x, y, z].foldl (· * ·) 1 = x * y * z := by show 1 * x * y * z = _; rw [Int.one_mul]
theorem fold4 (x y z u : Int) : [x, y, z, u].foldl (· * ·) 1 = x * y * z * u := by show 1 * x * y * z * u = _; rw [Int.one_mul]
theorem fold5 (x y z u v : Int) : [x, y, z, u, v].foldl (· * ·) 1 = x * y * z * u * v := by show 1 * x * y * z * u * v = _; rw [Int.one_mul]
set_option maxRecDepth 100000 in
set_option maxHeartbeats 2000000 in
theorem rootL (x y r : Int) (g : Nat) (w0 W : World) (S : Sv w0 g true W) (hx : lng x ≤ 302) (hy : lng y ≤ 271) (hr : lng r ≤ 60) :
    Calls Tryz.prog 120 #[.pointer (some ⟨g, 0, none⟩), .string ⟨(Lib.itoa x).toArray⟩, .string ⟨(Lib.itoa y).toArray⟩, .string ⟨(Lib.itoa r).toArray⟩] W (Svs w0 g true (.int .i64 (rootI x y r))) := by
  have S0 := S
  have H1 := Lib.hid (fun W S => sgnL x g w0 W S (by omega))
  have H2 := Lib.hid (fun W S => sgnL y g w0 W S (by omega))
  have H3 := Lib.hid (fun W S => sgnL r g w0 W S (by omega))
  have l1 : lng (x * x) ≤ 604 := by have := lng_mul x x hx hx; omega
  have l2 : lng (y * y * r) ≤ 604 := by have := lng_mul (y * y) r (lng_mul y y hy hy) hr; omega
  have M1 := Lib.hid (fun W S => mulT [x, x] 302 (x * x) #[.string ⟨(Lib.itoa x).toArray⟩, .string ⟨(Lib.itoa x).toArray⟩] 2 g w0 W _ 97 S rfl rfl rfl (by omega) (by intro n hn; simp at hn; subst hn; exact hx) (by omega) (fold2 x x))
  have M2 := Lib.hid (fun W S => mulT [y, y, r] 271 (y * y * r) #[.string ⟨(Lib.itoa y).toArray⟩, .string ⟨(Lib.itoa y).toArray⟩, .string ⟨(Lib.itoa r).toArray⟩] 3 g w0 W _ 97 S rfl rfl rfl (by omega) (by intro n hn; simp at hn; rcases hn with rfl | rfl <;> omega) (by omega) (fold3 y y r))
  have HS := Lib.hid (fun W S => subT (x * x) (y * y * r) _ 604 g w0 W S l1 l2 (by omega) rfl)
  have l3 := lng_subk l1 l2
  have H4 := Lib.hid (fun W S => sgnL (x * x - y * y * r) g w0 W S (by omega))
  unfold rootI
  have ba := sgn_bd x; have bb := mul_bd2 (sgn_bd y) (sgn_bd r); have bc := mul_bd2 ba bb; have bd := mul_bd2 ba (sgn_bd (x * x - y * y * r))
  have w1 : IntKind.i64.wrap (sgn y * sgn r) = sgn y * sgn r := IntWalk.i64_in _ (by omega)
  have w2 : IntKind.i64.wrap (sgn x * (sgn y * sgn r)) = sgn x * (sgn y * sgn r) := IntWalk.i64_in _ (by omega)
  have w3 : IntKind.i64.wrap (sgn x * sgn (x * x - y * y * r)) = sgn x * sgn (x * x - y * y * r) := IntWalk.i64_in _ (by omega)
  clear hx hy hr l1 l2 l3 ba bb bc bd S
  generalize hd : sgn (x * x - y * y * r) = d at *
  clear hd
  generalize Lib.itoa (x * x - y * y * r) = t3 at *
  generalize Lib.itoa (x * x) = t1 at *
  generalize Lib.itoa (y * y * r) = t2 at *
  generalize sgn x = a at *
  generalize sgn y = b at *
  generalize sgn r = c at *
  generalize Lib.itoa x = tx at *
  generalize Lib.itoa y = ty at *
  generalize Lib.itoa r = tr at *
  obtain ⟨bc, q1⟩ : ∃ v, b * c = v := ⟨_, rfl⟩
  have j1 := w1.trans q1
  rw [q1] at w2 ⊢
  clear w1 q1
  obtain ⟨abc, q2⟩ : ∃ v, a * bc = v := ⟨_, rfl⟩
  have j2 := w2.trans q2
  rw [q2]
  clear w2 q2
  obtain ⟨ad, q3⟩ : ∃ v, a * d = v := ⟨_, rfl⟩
  have j3 := w3.trans q3
  rw [q3]
  clear w3 q3
  by_cases h1 : abc ≥ 0
  · rw [if_pos h1]
    by_cases h2 : a ≠ 0
    · rw [if_pos h2]
      have h3 := bne_ne h2
      clear j3 H4 HS M1 M2
      go_enter Tryz.func120, Tryz.ntmps120
      go_wp2_with fail
      ((with_reducible refine (H1.out _ S0).mono ?_); rintro e w1 ⟨rfl, S1⟩)
      go_wp2_with fail
      ((with_reducible refine (H2.out _ S1).mono ?_); rintro e w2 ⟨rfl, S2⟩)
      go_wp2_with fail
      ((with_reducible refine (H3.out _ S2).mono ?_); rintro e w3 ⟨rfl, S3⟩)
      go_wp2
      go_ret
      exact ⟨rfl, S3⟩
    · rw [if_neg h2]
      obtain rfl : a = 0 := by omega
      clear j3 H4 HS M1 M2
      go_enter Tryz.func120, Tryz.ntmps120
      go_wp2_with fail
      ((with_reducible refine (H1.out _ S0).mono ?_); rintro e w1 ⟨rfl, S1⟩)
      go_wp2_with fail
      ((with_reducible refine (H2.out _ S1).mono ?_); rintro e w2 ⟨rfl, S2⟩)
      go_wp2_with fail
      ((with_reducible refine (H3.out _ S2).mono ?_); rintro e w3 ⟨rfl, S3⟩)
      go_wp2
      go_ret
      exact ⟨rfl, S3⟩
  · rw [if_neg h1]
    go_enter Tryz.func120, Tryz.ntmps120
    go_wp2_with fail
    ((with_reducible refine (H1.out _ S0).mono ?_); rintro e w1 ⟨rfl, S1⟩)
    go_wp2_with fail
    ((with_reducible refine (H2.out _ S1).mono ?_); rintro e w2 ⟨rfl, S2⟩)
    go_wp2_with fail
    ((with_reducible refine (H3.out _ S2).mono ?_); rintro e w3 ⟨rfl, S3⟩)
    go_wp2_with fail
    ((with_reducible refine (M1.out _ S3).mono ?_); rintro e w4 ⟨rfl, S4⟩)
    go_wp2_with fail
    ((with_reducible refine (M2.out _ S4).mono ?_); rintro e w5 ⟨rfl, S5⟩)
    go_wp2_with fail
    ((with_reducible refine (HS.out _ S5).mono ?_); rintro e w6 ⟨rfl, S6⟩)
    go_wp2_with fail
    ((with_reducible refine (H4.out _ S6).mono ?_); rintro e w7 ⟨rfl, S7⟩)
    go_wp2
    go_ret
    exact ⟨rfl, S7⟩
end Go.Proofs.Wk
