/- SQUARENESS: vectors in space. -/
import Derived.Test.YtcdjhgkeehhaaaaGreatDoorOC
import Derived.Test.YtcdjhgkeehhaaaaGreatDoorGL
import Derived.Test.YtcdjhgkeehhaaaaGreatDoorHI
import Derived.Test.YtcdjhgkeehhaaaaGreatDoorHE
namespace Go.Proofs.Wk
open Go.RowKit Mt

/-- Coordinates that are not greater than a bound. -/
def Bd (k : Nat) (p : Or.P3) : Prop := (-(k : Int) ≤ p.x ∧ p.x ≤ k) ∧ (-(k : Int) ≤ p.y ∧ p.y ≤ k) ∧ (-(k : Int) ≤ p.z ∧ p.z ≤ k)
theorem Bd.of {p : Or.P3} (h : InS p) : Bd 100000 p := h
theorem Bd.mono {k m : Nat} {p : Or.P3} (h : Bd k p) (hk : k ≤ m) : Bd m p := by unfold Bd at h ⊢; omega
theorem Bd.sub {k m n : Nat} {a b : Or.P3} (ha : Bd k a) (hb : Bd m b) (hn : k + m ≤ n) : Bd n (Or.sub a b) := by
  unfold Bd at ha hb
  unfold Bd Or.sub
  simp only
  omega
theorem Bd.crs {k m n : Nat} {a b : Or.P3} (ha : Bd k a) (hb : Bd m b) (hn : 2 * (k * m) ≤ n) : Bd n (Or.crs a b) := by
  obtain ⟨a1, a2, a3⟩ := ha
  obtain ⟨b1, b2, b3⟩ := hb
  have h1 := St.mul_bd a2 b3
  have h2 := St.mul_bd a3 b2
  have h3 := St.mul_bd a3 b1
  have h4 := St.mul_bd a1 b3
  have h5 := St.mul_bd a1 b2
  have h6 := St.mul_bd a2 b1
  unfold Bd Or.crs
  simp only
  omega
theorem Bd.dot {k m : Nat} {a b : Or.P3} (ha : Bd k a) (hb : Bd m b) : -((3 * (k * m) : Nat) : Int) ≤ Or.dot a b ∧ Or.dot a b ≤ ((3 * (k * m) : Nat) : Int) := by
  obtain ⟨a1, a2, a3⟩ := ha
  obtain ⟨b1, b2, b3⟩ := hb
  have h1 := St.mul_bd a1 b1
  have h2 := St.mul_bd a2 b2
  have h3 := St.mul_bd a3 b3
  unfold Or.dot
  omega
set_option maxRecDepth 100000 in
set_option maxHeartbeats 2000000 in
theorem along_f (a b : St.Pt) (k : Nat) (w : World) (ha : (-(k : Int) ≤ a.x ∧ a.x ≤ k) ∧ -(k : Int) ≤ a.y ∧ a.y ≤ k) (hb : (-(k : Int) ≤ b.x ∧ b.x ≤ k) ∧ -(k : Int) ≤ b.y ∧ b.y ≤ k) (hk : k ≤ 1000000000) :
    Calls Tryz.prog 15 #[ptV a, ptV b] w (Ret w (.int .i64 (St.crs a b))) := by
  have h0 : k * k ≤ 1000000000 * 1000000000 := Nat.mul_le_mul hk hk
  have hB := bx2 w (.cells #[.int .i64 a.x, .int .i64 a.y] 24) (.cells #[.int .i64 b.x, .int .i64 b.y] 24)
  obtain ⟨ax, ay⟩ := a
  obtain ⟨bx, by_⟩ := b
  unfold St.crs
  simp only at ha hb hB ⊢
  have h1 := St.mul_bd ha.1 hb.2
  obtain ⟨m1, r1⟩ : ∃ u, ax * by_ = u := ⟨_, rfl⟩
  have j1 : IntKind.i64.wrap (ax * by_) = m1 := wr r1 (by omega)
  rw [r1] at h1
  have h2 := St.mul_bd ha.2 hb.1
  obtain ⟨m2, r2⟩ : ∃ u, ay * bx = u := ⟨_, rfl⟩
  have j2 : IntKind.i64.wrap (ay * bx) = m2 := wr r2 (by omega)
  rw [r2] at h2
  rw [r1, r2]
  obtain ⟨s1, q1⟩ : ∃ u, m1 - m2 = u := ⟨_, rfl⟩
  have l1 : IntKind.i64.wrap (m1 - m2) = s1 := wr q1 (by omega)
  rw [q1]
  clear q1 r1 r2 h0 h1 h2 ha hb hk
  go_enter Tryz.func15, Tryz.ntmps15
  go_wp2
  go_ret
  exact ⟨rfl, hB⟩
end Go.Proofs.Wk
/- SQUARENESS: squared lengths, quotients of squares. -/
namespace Go.Proofs.Wk
open Go.RowKit Mt

theorem sq_bdS {n : Int} {k : Nat} (h : -(k : Int) ≤ n ∧ n ≤ k) : -((k * k : Nat) : Int) ≤ n * n ∧ n * n ≤ ((k * k : Nat) : Int) := St.mul_bd h h
theorem lngV {n : Int} (h : -4000000000000000000 ≤ n ∧ n ≤ 4000000000000000000) : lng n ≤ 20 := by
  refine lng_bd (by decide) ?_
  have e : (4000000000000000000 : Nat) < 10 ^ 20 := by decide
  omega
theorem lngVV {n : Int} (h : -4000000000000000000 ≤ n ∧ n ≤ 4000000000000000000) : lng (n * n) ≤ 40 := lng_mul n n (lngV h) (lngV h)
theorem chk_lng {n : Int} (h : lng n ≤ 1024) : chk (Lib.itoa n) = 0 := by rw [chk_itoa, if_pos (lng_big2 h)]
theorem tot3 {a b c : Int} (ha : lng a ≤ 40) (hb : lng b ≤ 40) (hc : lng c ≤ 40) : tot2 [Lib.itoa a, Lib.itoa b, Lib.itoa c] = (Lib.itoa (a + b + c), 0) := by
  unfold tot2
  have h1 : firstErr [Lib.itoa a, Lib.itoa b, Lib.itoa c] = 0 := by
    unfold firstErr; rw [if_pos (chk_lng (by omega))]
    unfold firstErr; rw [if_pos (chk_lng (by omega))]
    unfold firstErr; rw [if_pos (chk_lng (by omega))]
    rfl
  rw [if_neg (by simp), if_pos h1]
  have h2 : ([Lib.itoa a, Lib.itoa b, Lib.itoa c].map val).sum = a + b + c := by simp [val_itoa]; omega
  rw [h2]
  have h3 := lng_add a b ha hb
  have h4 := lng_add (a + b) c h3 (Nat.le_trans hc (by decide))
  exact kept_lng (by omega)
/-- The k-th coordinate. -/
def nthC (v : Or.P3) (k : Nat) : Int := if k = 0 then v.x else if k = 1 then v.y else v.z
def sqsT (v : Or.P3) (k : Nat) : List Txt := (List.range k).map fun j => Lib.itoa (nthC v j * nthC v j)
theorem sqsT_succ (v : Or.P3) (k : Nat) : sqsT v (k + 1) = sqsT v k ++ [Lib.itoa (nthC v k * nthC v k)] := by unfold sqsT; rw [List.range_succ, List.map_append]; rfl
theorem sqsT_len (v : Or.P3) (k : Nat) : (sqsT v k).length = k := by unfold sqsT; rw [List.length_map, List.length_range]
theorem sqsT_all (v : Or.P3) : sqsT v 3 = [Lib.itoa (v.x * v.x), Lib.itoa (v.y * v.y), Lib.itoa (v.z * v.z)] := rfl
theorem nthC_bd {v : Or.P3} (h : Bd 4000000000000000000 v) (k : Nat) : -4000000000000000000 ≤ nthC v k ∧ nthC v k ≤ 4000000000000000000 := by
  obtain ⟨h1, h2, h3⟩ := h
  unfold nthC
  split
  · exact h1
  · split
    · exact h2
    · exact h3
theorem nthC_cell {W : World} {g : Nat} {v : Or.P3} {t : TypeId} (h : W.heap[g]? = some (.cells #[.int .i64 v.x, .int .i64 v.y, .int .i64 v.z] t (0, 0))) {k : Nat} (hk : k < 3) : W.cell? ⟨g, k, none⟩ = some (.int .i64 (nthC v k)) := by
  rw [cell_of_row _ _ _ _ _ _ h]
  rcases (by omega : k = 0 ∨ k = 1 ∨ k = 2) with rfl | rfl | rfl <;> rfl
theorem keepD {w w' : World} {g : Nat} {o : Obj} (h : w.heap[g]? = some o) (hb : Below w.heap.size w w') : w'.heap[g]? = some o := (hb.block _ (Array.getElem?_eq_some_iff.1 h).1).trans h
set_option maxRecDepth 100000 in
set_option maxHeartbeats 2000000 in
theorem long_c (v : Or.P3) (w : World) (hg : Good w) (hv : Bd 4000000000000000000 v) : Calls Tryz.prog 55 #[spV v] w (Ret w (ans2 (Lib.itoa (Or.dot v v), 0))) := by
  have HF := Lib.hid (fun n W (h : Below w.heap.size w W) (hn : -4000000000000000000 ≤ n ∧ n ≤ 4000000000000000000) => wOf_c n W (hg.later h) (by omega) (by omega))
  have HM := Lib.hid (fun n W (h : Below w.heap.size w W) (hn : -4000000000000000000 ≤ n ∧ n ≤ 4000000000000000000) => mulI n n W (hg.later h) (Nat.le_trans (lngV hn) (by decide)) (Nat.le_trans (lngV hn) (by decide)) (Nat.le_trans (lngVV hn) (by decide)))
  have HT := Lib.hid (fun (V : Value) W (h : Below w.heap.size w W) (hs : SlS W V (sqsT v 3)) => by
    have := wTotal_c (sqsT v 3) W (hg.later h) hs (by rw [sqsT_len]; omega) (fun l hl => by
      unfold sqsT at hl
      obtain ⟨j, -, rfl⟩ := List.mem_map.1 hl
      exact txt_ok (Nat.le_trans (lngVV (nthC_bd hv j)) (by decide)))
    rwa [sqsT_all, tot3 (a := v.x * v.x) (b := v.y * v.y) (c := v.z * v.z) (lngVV (nthC_bd hv 0)) (lngVV (nthC_bd hv 1)) (lngVV (nthC_bd hv 2)), show v.x * v.x + v.y * v.y + v.z * v.z = Or.dot v v from rfl] at this)
  have HBD := Lib.hid (nthC_bd hv)
  have hA := bx2 w (.cells #[.int .i64 v.x, .int .i64 v.y, .int .i64 v.z] 80) (.cells #[.int .i64 v.x, .int .i64 v.y, .int .i64 v.z] 3)
  have hC := new2 w (.cells #[.int .i64 v.x, .int .i64 v.y, .int .i64 v.z] 80) (.cells #[.int .i64 v.x, .int .i64 v.y, .int .i64 v.z] 3)
  generalize Lib.itoa (Or.dot v v) = T at *
  have HSQ := Lib.hid (sqsT_succ v)
  have HLN := Lib.hid (sqsT_len v)
  have HCL := Lib.hid (fun (W : World) (g k : Nat) (hk : k < 3) (h : W.heap[g]? = some (.cells #[.int .i64 v.x, .int .i64 v.y, .int .i64 v.z] 3 (0, 0))) => nthC_cell h hk)
  have HS0 := Lib.hid (show sqsT v 0 = [] from rfl)
  generalize sqsT v = L at *
  generalize nthC v = c at *
  obtain ⟨x, y, z⟩ := v
  simp only at hA hC HCL
  clear hg hv
  go_enter Tryz.func55, Tryz.ntmps55
  go_wp2_with fail
  generalize (w.alloc (.cells #[.int .i64 x, .int .i64 y, .int .i64 z] 80)).alloc (.cells #[.int .i64 x, .int .i64 y, .int .i64 z] 3) = W0 at *
  go_loopw [4, 17] (fun sv si wr => ∃ k : Nat, si = .int .i64 (k : Int) ∧ k ≤ 3 ∧ Hid (OwT 51 wr W0.heap.size sv (L k)) ∧ Hid (Below W0.heap.size W0 wr)) (fun _ si _ => 3 - (intOf si).toNat)
  case atStart => exact ⟨0, rfl, Nat.zero_le _, by rw [HS0.out]; exact OwT.nil _ _ _, Below.refl _ _⟩
  case round =>
    obtain ⟨k, rfl, hk, hO, hB⟩ := hrel
    by_cases hlt : k < 3
    · have c0 := HCL.out _ _ k hlt (keepD hC hB.out)
      have hn := HBD.out k
      have HST := Lib.hid (HSQ.out k)
      generalize c k = n at *
      have HN := Lib.hid hn
      clear hn
      have z3 : (k : Int) < 3 := by omega
      go_wp2_with fail
      ((with_reducible refine (HF.out n _ (hA.nx hB.out) HN.out).mono ?_); rintro e w1 ⟨rfl, hb1⟩)
      have B1 := Lib.hid (hB.out.nx hb1)
      have O1 := Lib.hid (hO.out.later hb1)
      clear hb1
      go_wp2_with fail
      ((with_reducible refine (HF.out n _ (hA.nx B1.out) HN.out).mono ?_); rintro e w2 ⟨rfl, hb2⟩)
      have B2 := Lib.hid (B1.out.nx hb2)
      have O2 := Lib.hid (O1.out.later hb2)
      clear hb2 O1
      go_wp2_with fail
      ((with_reducible refine (HM.out n _ (hA.nx B2.out) HN.out).mono ?_); rintro e w3 ⟨rfl, hb3⟩)
      have hal := below_al w3 (.cells #[txt (Lib.itoa (n * n))] 51)
      have B3 := Lib.hid ((B2.out.nx hb3).nx hal)
      have O3 := Lib.hid ((O2.out.later hb3).later hal)
      have HC5 := Lib.hid (show (w3.alloc (.cells #[txt (Lib.itoa (n * n))] 51)).cell? ⟨w3.heap.size, 0, none⟩ = some (txt (Lib.itoa (n * n))) by
        rw [cell_of_row _ _ _ _ _ _ (heap_alloc_new w3 _)]; rfl)
      clear hb3 hal O2 c0 hO
      go_wp2_with (at_builtin; refine wpList_app_txt rfl _ _ 84 51 rfl Tryz.underlying84 (by kernel_rfl) W0.heap.size _ (L k) rfl O3.out w3.heap.size (Lib.itoa (n * n)) rfl HC5.out (by rw [HLN.out]; omega) B3.out.size ?_)
      · intro v' w6 hO6 hb6
        rw [← HST.out] at hO6
        have HO6 := Lib.hid hO6
        have HB6 := Lib.hid (B3.out.trans hb6)
        clear hO6 hb6
        go_wp2
        go_roundw
        case rel => exact ⟨k + 1, by go_num, by omega, HO6.out, HB6.out⟩
        case measure => simp [intOf]; omega
    · obtain rfl : k = 3 := by omega
      have HS := Lib.hid hO.out.sl
      clear hO
      go_wp2_with fail
      ((with_reducible refine (HT.out _ _ (hA.nx hB.out) HS.out).mono ?_); rintro e w2 ⟨rfl, hb2⟩)
      have hB2 := (hA.nx hB.out).nx hb2
      go_wp2
      go_ret2
      exact ⟨rfl, hB2⟩
theorem lng_dotV {v : Or.P3} (hv : Bd 4000000000000000000 v) : lng (Or.dot v v) ≤ 42 := by
  obtain ⟨h1, h2, h3⟩ := hv
  have a1 := lng_add (v.x * v.x) (v.y * v.y) (lngVV h1) (lngVV h2)
  have a2 := lng_add (v.x * v.x + v.y * v.y) (v.z * v.z) a1 (Nat.le_trans (lngVV h3) (by decide))
  exact a2
/-- A square over a squared length, of the program and of the reference. -/
def sqd (n : Int) (v : Or.P3) : Rat := Rat.divInt (n * n) (Or.dot v v)
set_option maxRecDepth 100000 in
set_option maxHeartbeats 2000000 in
theorem osquared_c (n : Int) (v : Or.P3) (w : World) (hg : Good w) (hn : -4000000000000000000 ≤ n ∧ n ≤ 4000000000000000000) (hv : Bd 4000000000000000000 v) (h0 : v ≠ ⟨0, 0, 0⟩) :
    Calls Tryz.prog 32 #[.int .i64 n, spV v] w (Ret w (ans2 (rtoa (sqd n v), 0))) := by
  have hd := Or.dot_pos h0
  have HL := Lib.hid (fun W (h : Below w.heap.size w W) => long_c v W (hg.later h) hv)
  have HF := Lib.hid (fun W (h : Below w.heap.size w W) => wOf_c n W (hg.later h) (by omega) (by omega))
  have HM := Lib.hid (fun W (h : Below w.heap.size w W) => mulI n n W (hg.later h) (Nat.le_trans (lngV hn) (by decide)) (Nat.le_trans (lngV hn) (by decide)) (Nat.le_trans (lngVV hn) (by decide)))
  have HK := Lib.hid (fun W (h : Below w.heap.size w W) => by
    have b1 : lng (n * n) ≤ 1024 := Nat.le_trans (lngVV hn) (by decide)
    have b2 : lng (Or.dot v v) ≤ 1024 := Nat.le_trans (lng_dotV hv) (by decide)
    have := qMake_c (Lib.itoa (n * n)) (Lib.itoa (Or.dot v v)) W (hg.later h) (txt_ok b1) (txt_ok b2)
    rwa [mk2_itoa (lng_big2 b1) (lng_big2 b2), show makQ (n * n) (Or.dot v v) = (rtoa (sqd n v), 0) from if_neg (by omega)] at this)
  have hA := below_al w (.cells #[.int .i64 v.x, .int .i64 v.y, .int .i64 v.z] 80)
  generalize Lib.itoa (Or.dot v v) = T at *
  generalize rtoa (sqd n v) = R at *
  generalize Lib.itoa (n * n) = NN at *
  generalize Lib.itoa n = TN at *
  obtain ⟨x, y, z⟩ := v
  simp only at hA
  clear hd hg hn hv h0
  go_enter Tryz.func32, Tryz.ntmps32
  go_wp2_with fail
  ((with_reducible refine (HL.out _ hA).mono ?_); rintro e w1 ⟨rfl, hb1⟩)
  have hB1 := hA.nx hb1
  go_wp2_with fail
  ((with_reducible refine (HF.out _ hB1).mono ?_); rintro e w2 ⟨rfl, hb2⟩)
  have hB2 := hB1.nx hb2
  go_wp2_with fail
  ((with_reducible refine (HF.out _ hB2).mono ?_); rintro e w3 ⟨rfl, hb3⟩)
  have hB3 := hB2.nx hb3
  go_wp2_with fail
  ((with_reducible refine (HM.out _ hB3).mono ?_); rintro e w4 ⟨rfl, hb4⟩)
  have hB4 := hB3.nx hb4
  go_wp2_with fail
  ((with_reducible refine (HK.out _ hB4).mono ?_); rintro e w5 ⟨rfl, hb5⟩)
  have hB5 := hB4.nx hb5
  go_wp2
  go_ret2
  exact ⟨rfl, hB5⟩
end Go.Proofs.Wk
