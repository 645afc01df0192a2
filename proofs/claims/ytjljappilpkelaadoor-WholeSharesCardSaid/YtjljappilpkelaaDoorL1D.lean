/- THE LAW WholeDivides: it returns true at all texts. -/
import Derived.Test.YtjljappilpkelaaDoorL1S
namespace Go.Proofs.Wk
open Go.RowKit Mt

theorem mul_fdiv_self {x y : Int} (h : y ≠ 0) : (x * y).fdiv y = x ∧ (x * y).fmod y = 0 :=
  fl_unique (by omega) (fun _ => by omega) (fun _ => by omega) h
theorem fdiv_back (x y : Int) : x.fdiv y * y + x.fmod y = x := by
  have := Int.mul_fdiv_add_fmod x y
  rw [Int.mul_comm]; exact this
theorem fmod_sign {x y : Int} (h : y ≠ 0) : (0 < y → 0 ≤ x.fmod y ∧ x.fmod y < y) ∧ (y < 0 → y < x.fmod y ∧ x.fmod y ≤ 0) := by
  have b := fmod_le (m := x) h
  by_cases hc : x.tmod y ≠ 0 ∧ ((x.tmod y < 0) ≠ (y < 0))
  · have e := fmod_add h hc
    have l := tmod_lt (m := x) h
    obtain ⟨h1, h2⟩ := hc
    by_cases p : x.tmod y < 0 <;> by_cases q : y < 0 <;> simp [p, q] at h2 <;> omega
  · have e := fmod_same h hc
    have l := tmod_lt (m := x) h
    have h3 : x.tmod y = 0 ∨ ((x.tmod y < 0) = (y < 0)) := by
      by_cases p : x.tmod y = 0
      · exact .inl p
      · exact .inr (by by_cases h4 : (x.tmod y < 0) = (y < 0); exact h4; exact absurd ⟨p, h4⟩ hc)
    rcases h3 with h3 | h3
    · omega
    · by_cases p : x.tmod y < 0 <;> by_cases q : y < 0 <;> simp [p, q] at h3 <;> omega
theorem near_sign {x y : Int} (h : y ≠ 0) : sgn (y - x.fmod y) = sgn y ∧ (sgn (x.fmod y) = 0 ∨ (sgn (x.fmod y) ≠ 0 ∧ sgn (x.fmod y) = sgn y)) := by
  have a := fmod_sign (x := x) h
  have A := cmp_spec (y - x.fmod y) 0
  have B := cmp_spec y 0
  have C := cmp_spec (x.fmod y) 0
  unfold sgn
  omega
theorem lng_of_le {m : Int} {n : Int} {k : Nat} (h : m.natAbs ≤ n.natAbs) (hn : lng n ≤ k) : lng m ≤ k := Nat.le_trans (lng_mono h) hn

set_option maxRecDepth 100000 in
set_option maxHeartbeats 4000000 in
theorem divides_yes (x y : Int) (w : World) (hg : Good w) (hx : lng x ≤ 50) (hy : lng y ≤ 50) (h : allShort [Lib.itoa x, Lib.itoa y] = true) (h0 : y ≠ 0) :
    Calls Tryd.prog 5 #[.string ⟨(Lib.itoa x).toArray⟩, .string ⟨(Lib.itoa y).toArray⟩] w (Ret w (.bool true)) := by
  have HG := Lib.hid hg
  have hS := fun t => short2 (Lib.itoa x) (Lib.itoa y) w (txt_ok (by omega)) (txt_ok (by omega)) t
  rw [h] at hS
  have HS := Lib.hid hS
  have lxy := lng_mul x y hx hy
  obtain ⟨e1, e2⟩ := mul_fdiv_self (x := x) h0
  have lq := lng_of_le (fdiv_le (m := x) h0) hx
  have lr := lng_of_le (m := x.fmod y) (n := y) (by have := fmod_le (m := x) h0; omega) hy
  have lqy := lng_mul _ y lq hy
  obtain ⟨n1, n2⟩ := near_sign (x := x) h0
  have ls := lng_sub y (x.fmod y) (k := 50) hy lr
  have M1 := Lib.hid (fun W hW => mulI x y W hW (by omega) (by omega) (by omega))
  have q1 := fun W hW => quoI (x * y) y W hW (by omega) (by omega) h0
  rw [e1] at q1
  have Q1 := Lib.hid q1
  have r1 := fun W hW => remI (x * y) y W hW (by omega) (by omega) h0
  rw [e2, itoa_zero] at r1
  have R1 := Lib.hid r1
  have Q2 := Lib.hid (fun W hW => quoI x y W hW (by omega) (by omega) h0)
  have R2 := Lib.hid (fun W hW => remI x y W hW (by omega) (by omega) h0)
  have M2 := Lib.hid (fun W hW => mulI (x.fdiv y) y W hW (by omega) (by omega) (by omega))
  have a1 := fun W hW => addI (x.fdiv y * y) (x.fmod y) W hW (by omega) (by omega) (by rw [fdiv_back]; omega)
  rw [fdiv_back] at a1
  have A1 := Lib.hid a1
  have S1 := Lib.hid (fun W => signI (x.fmod y) W (by omega))
  have S2 := Lib.hid (fun W => signI y W (by omega))
  have B1 := Lib.hid (fun W hW => subI y (x.fmod y) W hW (by omega) (by omega) (by omega))
  have s3 := fun W => signI (y - x.fmod y) W (by omega)
  rw [n1] at s3
  have S3 := Lib.hid s3
  have hn48 := itoa_n48 h0
  clear h hg hS lxy q1 r1 a1 s3 e1 e2 lq lr lqy ls n1 hx hy h0
  generalize Lib.itoa x = tx at *
  generalize Lib.itoa y = ty at *
  generalize Lib.itoa (x * y) = txy at *
  generalize Lib.itoa (x.fdiv y) = tq at *
  generalize Lib.itoa (x.fmod y) = tr at *
  generalize Lib.itoa (x.fdiv y * y) = tqy at *
  generalize Lib.itoa (y - x.fmod y) = tn at *
  generalize sgn (x.fmod y) = s at *
  generalize sgn y = t at *
  rcases n2 with rfl | ⟨n3, rfl⟩
  · go_enter Tryd.func5, Tryd.ntmps5
    go_wp2_with fail
    refine (HS.out _).mono ?_; rintro e w1 ⟨rfl, hb1⟩
    have hB1 := hb1
    go_wp2_with fail
    refine (M1.out _ (HG.out.later hB1)).mono ?_; rintro e w2 ⟨rfl, hb2⟩
    have hB2 := hB1.trans (hb2.mono hB1.size); clear hb2
    go_wp2_with fail
    refine (Q1.out _ (HG.out.later hB2)).mono ?_; rintro e w3 ⟨rfl, hb3⟩
    have hB3 := hB2.trans (hb3.mono hB2.size); clear hb3
    go_wp2_with fail
    refine (R1.out _ (HG.out.later hB3)).mono ?_; rintro e w4 ⟨rfl, hb4⟩
    have hB4 := hB3.trans (hb4.mono hB3.size); clear hb4
    go_wp2_with fail
    refine (Q2.out _ (HG.out.later hB4)).mono ?_; rintro e w5 ⟨rfl, hb5⟩
    have hB5 := hB4.trans (hb5.mono hB4.size); clear hb5
    go_wp2_with fail
    refine (R2.out _ (HG.out.later hB5)).mono ?_; rintro e w6 ⟨rfl, hb6⟩
    have hB6 := hB5.trans (hb6.mono hB5.size); clear hb6
    go_wp2_with fail
    refine (M2.out _ (HG.out.later hB6)).mono ?_; rintro e w7 ⟨rfl, hb7⟩
    have hB7 := hB6.trans (hb7.mono hB6.size); clear hb7
    go_wp2_with fail
    refine (A1.out _ (HG.out.later hB7)).mono ?_; rintro e w8 ⟨rfl, hb8⟩
    have hB8 := hB7.trans (hb8.mono hB7.size); clear hb8
    go_wp2_with fail
    refine (S1.out _).mono ?_; rintro e w9 ⟨rfl, hb9⟩
    have hB9 := hB8.trans (hb9.mono hB8.size); clear hb9
    go_wp2_with fail
    refine (S2.out _).mono ?_; rintro e w10 ⟨rfl, hb10⟩
    have hB10 := hB9.trans (hb10.mono hB9.size); clear hb10
    go_wp2_with fail
    refine (B1.out _ (HG.out.later hB10)).mono ?_; rintro e w11 ⟨rfl, hb11⟩
    have hB11 := hB10.trans (hb11.mono hB10.size); clear hb11
    go_wp2_with fail
    refine (S3.out _).mono ?_; rintro e w12 ⟨rfl, hb12⟩
    have hB12 := hB11.trans (hb12.mono hB11.size); clear hb12
    go_wp2_with fail
    refine (awake_c _ (HG.out.later hB12)).mono ?_; rintro e w13 ⟨rfl, hb13⟩
    have hB13 := hB12.trans (hb13.mono hB12.size); clear hb13
    go_wp2
    go_ret
    exact ⟨rfl, hB13⟩
  · have hs0 : (s == 0) = false := by simpa using n3
    clear n3
    go_enter Tryd.func5, Tryd.ntmps5
    go_wp2_with fail
    refine (HS.out _).mono ?_; rintro e w1 ⟨rfl, hb1⟩
    have hB1 := hb1
    go_wp2_with fail
    refine (M1.out _ (HG.out.later hB1)).mono ?_; rintro e w2 ⟨rfl, hb2⟩
    have hB2 := hB1.trans (hb2.mono hB1.size); clear hb2
    go_wp2_with fail
    refine (Q1.out _ (HG.out.later hB2)).mono ?_; rintro e w3 ⟨rfl, hb3⟩
    have hB3 := hB2.trans (hb3.mono hB2.size); clear hb3
    go_wp2_with fail
    refine (R1.out _ (HG.out.later hB3)).mono ?_; rintro e w4 ⟨rfl, hb4⟩
    have hB4 := hB3.trans (hb4.mono hB3.size); clear hb4
    go_wp2_with fail
    refine (Q2.out _ (HG.out.later hB4)).mono ?_; rintro e w5 ⟨rfl, hb5⟩
    have hB5 := hB4.trans (hb5.mono hB4.size); clear hb5
    go_wp2_with fail
    refine (R2.out _ (HG.out.later hB5)).mono ?_; rintro e w6 ⟨rfl, hb6⟩
    have hB6 := hB5.trans (hb6.mono hB5.size); clear hb6
    go_wp2_with fail
    refine (M2.out _ (HG.out.later hB6)).mono ?_; rintro e w7 ⟨rfl, hb7⟩
    have hB7 := hB6.trans (hb7.mono hB6.size); clear hb7
    go_wp2_with fail
    refine (A1.out _ (HG.out.later hB7)).mono ?_; rintro e w8 ⟨rfl, hb8⟩
    have hB8 := hB7.trans (hb8.mono hB7.size); clear hb8
    go_wp2_with fail
    refine (S1.out _).mono ?_; rintro e w9 ⟨rfl, hb9⟩
    have hB9 := hB8.trans (hb9.mono hB8.size); clear hb9
    go_wp2_with fail
    refine (S2.out _).mono ?_; rintro e w10 ⟨rfl, hb10⟩
    have hB10 := hB9.trans (hb10.mono hB9.size); clear hb10
    go_wp2_with fail
    refine (B1.out _ (HG.out.later hB10)).mono ?_; rintro e w11 ⟨rfl, hb11⟩
    have hB11 := hB10.trans (hb11.mono hB10.size); clear hb11
    go_wp2_with fail
    refine (S3.out _).mono ?_; rintro e w12 ⟨rfl, hb12⟩
    have hB12 := hB11.trans (hb12.mono hB11.size); clear hb12
    go_wp2_with fail
    refine (awake_c _ (HG.out.later hB12)).mono ?_; rintro e w13 ⟨rfl, hb13⟩
    have hB13 := hB12.trans (hb13.mono hB12.size); clear hb13
    go_wp2
    go_ret
    exact ⟨rfl, hB13⟩

set_option maxRecDepth 100000 in
set_option maxHeartbeats 1000000 in
theorem divides_c (a b : Txt) (w : World) (hg : Good w) (ha : a.length ≤ 140737488355328) (hb : b.length ≤ 140737488355328) :
    Calls Tryd.prog 5 #[.string ⟨a.toArray⟩, .string ⟨b.toArray⟩] w (Ret w (.bool true)) := by
  have HG := Lib.hid hg
  by_cases h : allShort [a, b] = true
  · obtain ⟨h1, h2⟩ := (all2 a b).1 h
    obtain ⟨x, rfl, hx⟩ := short_int h1
    obtain ⟨y, rfl, hy⟩ := short_int h2
    by_cases h0 : y = 0
    · subst h0
      have hS := fun t => short2 (Lib.itoa x) (Lib.itoa 0) w ha hb t
      rw [h, itoa_zero] at hS
      rw [itoa_zero]
      have HS := Lib.hid hS
      clear h hg hS hx hy h1 h2 ha hb
      go_enter Tryd.func5, Tryd.ntmps5
      go_wp2_with fail
      refine (HS.out _).mono ?_; rintro e w1 ⟨rfl, hb1⟩
      have hB1 := hb1
      go_wp2_with fail
      refine (awake_c _ (HG.out.later hB1)).mono ?_; rintro e w2 ⟨rfl, hb2⟩
      have hB2 := hB1.trans (hb2.mono hB1.size); clear hb2
      go_wp2
      go_ret
      exact ⟨rfl, hB2⟩
    · exact divides_yes x y w hg hx hy h h0
  · have hS := fun t => short2 a b w ha hb t
    rw [show allShort [a, b] = false by simpa using h] at hS
    have HS := Lib.hid hS
    clear h hg hS
    go_enter Tryd.func5, Tryd.ntmps5
    go_wp2_with fail
    refine (HS.out _).mono ?_; rintro e w1 ⟨rfl, hb1⟩
    have hB1 := hb1
    go_wp2_with fail
    refine (awake_c _ (HG.out.later hB1)).mono ?_; rintro e w2 ⟨rfl, hb2⟩
    have hB2 := hB1.trans (hb2.mono hB1.size); clear hb2
    go_wp2
    go_ret
    exact ⟨rfl, hB2⟩
end Go.Proofs.Wk
