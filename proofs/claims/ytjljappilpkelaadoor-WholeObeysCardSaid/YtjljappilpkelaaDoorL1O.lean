/- THE LAW WholeObeys: it returns true at all texts. -/
import Derived.Test.YtjljappilpkelaaDoorL1S
namespace Go.Proofs.Wk
open Go.RowKit Mt

theorem back_add (y z : Int) : y + z - z = y := by omega
theorem neg_add (x : Int) : -x + x = 0 := by omega
theorem dist (x y z : Int) : x * z + x * y = (y + z) * x := by rw [← Int.mul_add, Int.mul_comm, Int.add_comm]
set_option maxRecDepth 100000 in
set_option maxHeartbeats 4000000 in
theorem obeys_yes (x y z : Int) (w : World) (hg : Good w) (hx : lng x ≤ 50) (hy : lng y ≤ 50) (hz : lng z ≤ 50) (h : allShort [Lib.itoa x, Lib.itoa y, Lib.itoa z] = true) :
    Calls Tryd.prog 6 #[.string ⟨(Lib.itoa x).toArray⟩, .string ⟨(Lib.itoa y).toArray⟩, .string ⟨(Lib.itoa z).toArray⟩] w (Ret w (.bool true)) := by
  have HG := Lib.hid hg
  have hS := fun t => short3 (Lib.itoa x) (Lib.itoa y) (Lib.itoa z) w (txt_ok (by omega)) (txt_ok (by omega)) (txt_ok (by omega)) t
  rw [h] at hS
  have HS := Lib.hid hS
  have hB0 := Below.refl w.heap.size w
  have lxy := lng_mul x y hx hy
  have lxz := lng_mul x z hx hz
  have lyz := lng_add y z (k := 50) hy hz
  have ll := lng_mul (y + z) x lyz hx
  have M1 := Lib.hid (fun W hW => mulI x y W hW (by omega) (by omega) (by omega))
  have M2 := Lib.hid (fun W hW => mulI x z W hW (by omega) (by omega) (by omega))
  have A1 := Lib.hid (fun W hW => addI y z W hW (by omega) (by omega) (by omega))
  have M3 := Lib.hid (fun W hW => mulI (y + z) x W hW (by omega) (by omega) (by omega))
  have a2 := fun W hW => addI (x * z) (x * y) W hW (by omega) (by omega) (by rw [dist]; omega)
  rw [dist] at a2
  have A2 := Lib.hid a2
  have s1 := fun W hW => subI (y + z) z W hW (by omega) (by omega) (by rw [back_add]; omega)
  rw [back_add] at s1
  have S1 := Lib.hid s1
  have N1 := Lib.hid (fun W => negI x W (by omega))
  have l0 := lng_neg x
  have l00 : lng 0 ≤ 50 := (lng_le 0 (by omega)).2 (Nat.pow_pos (by omega))
  have a3 := fun W hW => addI (-x) x W hW (by omega) (by omega) (by rw [neg_add]; omega)
  rw [neg_add, itoa_zero] at a3
  have A3 := Lib.hid a3
  have c1 := fun W => cmpI x y W (by omega) (by omega)
  rw [cmp_sub] at c1
  have C1 := Lib.hid c1
  have ls := lng_sub x y (k := 50) hx hy
  have S2 := Lib.hid (fun W hW => subI x y W hW (by omega) (by omega) (by omega))
  have G1 := Lib.hid (fun W => signI (x - y) W (by omega))
  have m4 := fun W hW => mulI y x W hW (by omega) (by omega) (by rw [Int.mul_comm]; omega)
  rw [Int.mul_comm] at m4
  have M4 := Lib.hid m4
  clear h hg hS lxy lxz lyz ll a2 s1 l0 l00 a3 c1 ls m4 hx hy hz
  generalize Lib.itoa x = tx at *
  generalize Lib.itoa y = ty at *
  generalize Lib.itoa z = tz at *
  generalize Lib.itoa (x * y) = txy at *
  generalize Lib.itoa (x * z) = txz at *
  generalize Lib.itoa (y + z) = tyz at *
  generalize Lib.itoa ((y + z) * x) = tl at *
  generalize Lib.itoa (-x) = tn at *
  generalize Lib.itoa (x - y) = td at *
  generalize sgn (x - y) = o at *
  go_enter Tryd.func6, Tryd.ntmps6
  go_wp2_with fail
  refine (HS.out _).mono ?_; rintro e w1 ⟨rfl, hb1⟩
  have hB1 := hb1
  go_wp2_with fail
  refine (M1.out _ (HG.out.later hB1)).mono ?_; rintro e w2 ⟨rfl, hb2⟩
  have hB2 := hB1.trans (hb2.mono hB1.size); clear hb2
  go_wp2_with fail
  refine (M2.out _ (HG.out.later hB2)).mono ?_; rintro e w3 ⟨rfl, hb3⟩
  have hB3 := hB2.trans (hb3.mono hB2.size); clear hb3
  go_wp2_with fail
  refine (A1.out _ (HG.out.later hB3)).mono ?_; rintro e w4 ⟨rfl, hb4⟩
  have hB4 := hB3.trans (hb4.mono hB3.size); clear hb4
  go_wp2_with fail
  refine (M3.out _ (HG.out.later hB4)).mono ?_; rintro e w5 ⟨rfl, hb5⟩
  have hB5 := hB4.trans (hb5.mono hB4.size); clear hb5
  go_wp2_with fail
  refine (A2.out _ (HG.out.later hB5)).mono ?_; rintro e w6 ⟨rfl, hb6⟩
  have hB6 := hB5.trans (hb6.mono hB5.size); clear hb6
  go_wp2_with fail
  refine (S1.out _ (HG.out.later hB6)).mono ?_; rintro e w7 ⟨rfl, hb7⟩
  have hB7 := hB6.trans (hb7.mono hB6.size); clear hb7
  go_wp2_with fail
  refine (N1.out _).mono ?_; rintro e w8 ⟨rfl, hb8⟩
  have hB8 := hB7.trans (hb8.mono hB7.size); clear hb8
  go_wp2_with fail
  refine (A3.out _ (HG.out.later hB8)).mono ?_; rintro e w9 ⟨rfl, hb9⟩
  have hB9 := hB8.trans (hb9.mono hB8.size); clear hb9
  go_wp2_with fail
  refine (C1.out _).mono ?_; rintro e w10 ⟨rfl, hb10⟩
  have hB10 := hB9.trans (hb10.mono hB9.size); clear hb10
  go_wp2_with fail
  refine (S2.out _ (HG.out.later hB10)).mono ?_; rintro e w11 ⟨rfl, hb11⟩
  have hB11 := hB10.trans (hb11.mono hB10.size); clear hb11
  go_wp2_with fail
  refine (G1.out _).mono ?_; rintro e w12 ⟨rfl, hb12⟩
  have hB12 := hB11.trans (hb12.mono hB11.size); clear hb12
  go_wp2_with fail
  refine (M4.out _ (HG.out.later hB12)).mono ?_; rintro e w13 ⟨rfl, hb13⟩
  have hB13 := hB12.trans (hb13.mono hB12.size); clear hb13
  go_wp2_with fail
  refine (awake_c _ (HG.out.later hB13)).mono ?_; rintro e w14 ⟨rfl, hb14⟩
  have hB14 := hB13.trans (hb14.mono hB13.size); clear hb14
  go_wp2
  go_ret
  exact ⟨rfl, hB14⟩

set_option maxRecDepth 100000 in
set_option maxHeartbeats 1000000 in
theorem obeys_c (a b c : Txt) (w : World) (hg : Good w) (ha : a.length ≤ 140737488355328) (hb : b.length ≤ 140737488355328) (hc : c.length ≤ 140737488355328) :
    Calls Tryd.prog 6 #[.string ⟨a.toArray⟩, .string ⟨b.toArray⟩, .string ⟨c.toArray⟩] w (Ret w (.bool true)) := by
  by_cases h : allShort [a, b, c] = true
  · obtain ⟨h1, h2, h3⟩ := (all3 a b c).1 h
    obtain ⟨x, rfl, hx⟩ := short_int h1
    obtain ⟨y, rfl, hy⟩ := short_int h2
    obtain ⟨z, rfl, hz⟩ := short_int h3
    exact obeys_yes x y z w hg hx hy hz h
  · have HG := Lib.hid hg
    have hS := fun t => short3 a b c w ha hb hc t
    rw [show allShort [a, b, c] = false by simpa using h] at hS
    have HS := Lib.hid hS
    clear h hg hS
    go_enter Tryd.func6, Tryd.ntmps6
    go_wp2_with fail
    refine (HS.out _).mono ?_; rintro e w1 ⟨rfl, hb1⟩
    have hB1 := hb1
    go_wp2_with fail
    refine (awake_c _ (HG.out.later hB1)).mono ?_; rintro e w2 ⟨rfl, hb2⟩
    have hB2 := hB1.trans (hb2.mono hB1.size); clear hb2
    go_wp2
    go_ret
    exact ⟨rfl, hB2⟩
end Go.Proofs.Wk
