/- SQUARENESS: the law of upright zones and of tolerances, walked. -/
import Derived.Test.YtenoganbeccanaaGreatDoorLoA
namespace Go.Proofs.Wk
open Go.RowKit Mt

theorem two_bool (w : World) (a b : Bool) (t : TypeId) : ∀ (k : Nat) (hk : k < 2), (w.alloc (.cells #[.bool a, .bool b] t)).cell? ⟨w.heap.size, k, none⟩ = some (.bool [a, b][k]) := fun k hk => by
  rw [cell_of_row _ _ _ _ _ _ (heap_alloc_new w _)]
  match k, hk with
  | 0, _ => rfl
  | 1, _ => rfl
set_option maxRecDepth 100000 in
set_option maxHeartbeats 4000000 in
theorem stands_law {v : Value} (ls : List Or.P3) (d : Or.P3) (tol : Int) (w : World) (hg : Good w) (S : SlX w v ls) (hln : ls.length ≤ 140737488355328) : Calls Tryz.prog 6 #[v, spV d, .int .i64 tol] w (Ret w (.bool true)) := by
  have HFW := Lib.hid (fun W (h : Below w.heap.size w W) => fewS_c ls W (S.later h) hln)
  have HAW := Lib.hid (fun W (h : Below w.heap.size w W) => awakeO_c W (hg.later h))
  have H1 := Lib.hid (fun W (h : Below w.heap.size w W) => Upright_c ls d W (hg.later h) (S.later h) hln)
  have H2 := Lib.hid (fun W (h : Below w.heap.size w W) => rUpright_c ls d W (S.later h) hln)
  have H3 := Lib.hid (fun q W (h : Below w.heap.size w W) => oWithin_c ls d q tol W (hg.later h) (S.later h) hln)
  have H4 := Lib.hid (fun q W (h : Below w.heap.size w W) => rWithinO_c ls d q tol W (S.later h) hln)
  obtain ⟨A, i, j, k, E, hA⟩ := upV_form ls d
  rw [hA] at H1 H2
  have hu := heap_alloc_new w (.cells #[.int .i64 d.x, .int .i64 d.y, .int .i64 d.z] 52)
  have B0 := below_al w (.cells #[.int .i64 d.x, .int .i64 d.y, .int .i64 d.z] 52)
  generalize fewN 6 ls.length = q at *
  generalize wnE ls d = we at *
  obtain ⟨sa, cap, rfl⟩ := S.lenS
  obtain ⟨dx, dy, dz⟩ := d
  simp only at hu B0
  clear S hg hln hA
  have ae := fun (a b c d e f : Int) W => ar3_neq a b c d e f W
  go_enter Tryz.func6, Tryz.ntmps6
  go_wp2_with fail
  generalize w.alloc (.cells #[.int .i64 dx, .int .i64 dy, .int .i64 dz] 52) = W at *
  ((with_reducible refine (HFW.out _ B0).mono ?_); rintro e w1 ⟨rfl, rfl⟩)
  cases q with
  | false =>
    go_wp2_with fail
    ((with_reducible refine (HAW.out _ B0).mono ?_); rintro e w2 ⟨rfl, hb2⟩)
    have hB := B0.nx hb2
    clear hu
    go_wp2
    go_ret
    exact ⟨rfl, hB⟩
  | true =>
    obtain ⟨u0, u1, u2⟩ := c3row hu
    go_wp2_with fail
    ((with_reducible refine (H1.out _ B0).mono ?_); rintro e v1 ⟨rfl, q1⟩)
    clear u0 u1 u2
    have a1 := below_al v1 (.cells (prC i j k) 57)
    replace hu := keepD (keepD hu q1) a1
    have h1 := heap_alloc_new v1 (.cells (prC i j k) 57)
    have D1 := (B0.nx q1).nx a1
    clear q1 a1 B0
    go_upto_region 4 with fail
    generalize v1.alloc (.cells #[.int .i64 (i : Int), .int .i64 (j : Int), .int .i64 (k : Int)] 57) = x1 at *
    generalize v1.heap.size = y1 at *
    obtain ⟨u0, u1, u2⟩ := c3row hu
    go_wp2_with fail
    ((with_reducible refine (H2.out _ D1).mono ?_); rintro e v2 ⟨rfl, q2⟩)
    clear u0 u1 u2
    have a2 := below_al v2 (.cells (prC i j k) 57)
    replace hu := keepD (keepD hu q2) a2
    replace h1 := keepD (keepD h1 q2) a2
    have h2 := heap_alloc_new v2 (.cells (prC i j k) 57)
    have D2 := (D1.nx q2).nx a2
    clear q2 a2 D1
    go_upto_region 5 with fail
    generalize v2.alloc (.cells #[.int .i64 (i : Int), .int .i64 (j : Int), .int .i64 (k : Int)] 57) = x2 at *
    generalize v2.heap.size = y2 at *
    obtain ⟨e1, e2, e3⟩ := c3row h1
    obtain ⟨f1, f2, f3⟩ := c3row h2
    go_wp2_with fail
    have HTB := Lib.hid (two_bool x2 true false 4)
    have a3 := below_al x2 (.cells #[.bool true, .bool false] 4)
    have HU := Lib.hid (keepD hu a3)
    have D3 := D2.nx a3
    clear e1 e2 e3 f1 f2 f3 h1 h2 a3 D2 hu
    generalize x2.alloc (.cells #[.bool true, .bool false] 4) = x3 at *
    generalize x2.heap.size = y3 at *
    go_loopw [52] (fun sk wr => ∃ m : Nat, sk = .int .i64 (m : Int) ∧ m ≤ 2 ∧ Hid (Below x3.heap.size x3 wr)) (fun sk _ => 2 - (intOf sk).toNat)
    case atStart => exact ⟨0, rfl, by omega, Below.refl _ _⟩
    case round =>
      obtain ⟨m, rfl, hm, hB⟩ := hrel
      by_cases hlt : m < 2
      · rename World => wr
        have c0 : wr.cell? ⟨y3, m, none⟩ = some (Value.bool [true, false][m]) := by
          have := HTB.out m hlt
          rw [← hB.out.cell (p := ⟨y3, m, none⟩) (World.block_lt_of_cell? x3 _ this)] at this
          exact this
        generalize [true, false][m] = sq at *
        have H3' := Lib.hid (H3.out sq)
        have H4' := Lib.hid (H4.out sq)
        generalize we sq tol = r at *
        obtain ⟨rb, re⟩ := r
        obtain ⟨u0, u1, u2⟩ := c3row (keepD HU.out hB.out)
        have z2 : (m : Int) < 2 := by omega
        go_wp2_with fail
        ((with_reducible refine (H3'.out _ (D3.nx hB.out)).mono ?_); rintro e v4 ⟨rfl, q4⟩)
        have HB4 := Lib.hid (hB.out.nx q4)
        clear u0 u1 u2 c0 q4 hB
        obtain ⟨u0, u1, u2⟩ := c3row (keepD HU.out HB4.out)
        go_wp2_with fail
        ((with_reducible refine (H4'.out _ (D3.nx HB4.out)).mono ?_); rintro e v5 ⟨rfl, q5⟩)
        have HB5 := Lib.hid (HB4.out.nx q5)
        clear u0 u1 u2 q5 HB4
        go_wp2
        go_roundw
        case rel => exact ⟨m + 1, by go_num, by omega, HB5.out⟩
        case measure => simp [intOf]; omega
      · obtain rfl : m = 2 := by omega
        have D4 := D3.nx hB.out
        go_wp2_with fail
        ((with_reducible refine (HAW.out _ D4).mono ?_); rintro e w9 ⟨rfl, q9⟩)
        have D9 := D4.nx q9
        go_wp2
        go_ret
        exact ⟨rfl, D9⟩
end Go.Proofs.Wk
