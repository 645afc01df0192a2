/- STRAIGHTNESS: the law of widths across a direction, walked. -/
import Derived.Test.YtjopphkhpmoedaaGreatDoorNN
namespace Go.Proofs.Wk
open Go.RowKit Mt

set_option maxRecDepth 100000 in
set_option maxHeartbeats 4000000 in
theorem crosses_c {v : Value} (ls : List St.Pt) (a c : St.Pt) (w : World) (hg : Good w) (S : SlX w v ls) (hln : ls.length ≤ 140737488355328) : Calls Tryz.prog 4 #[v, ptV a, ptV c] w (Ret w (.bool true)) := by
  have HFW := Lib.hid (fun W (h : Below w.heap.size w W) => rFewP_c ls W (S.later h) hln)
  have HAW := Lib.hid (fun W (h : Below w.heap.size w W) => awake_c W (hg.later h))
  have HA := Lib.hid (fun W (h : Below w.heap.size w W) => Across_c ls a c W (hg.later h) (S.later h) hln)
  have HB := Lib.hid (fun W (h : Below w.heap.size w W) => rAcross_c ls a c W (S.later h) hln)
  have hx := Bx2.mk' w a c 37
  obtain ⟨sa, cap, rfl⟩ := S.len
  generalize fewP ls.length = q at *
  generalize acrE ls a c = r at *
  obtain ⟨T, E⟩ := r
  obtain ⟨ax, ay⟩ := a
  obtain ⟨cx, cy⟩ := c
  simp only at hx
  clear S hg hln
  go_enter Tryz.func4, Tryz.ntmps4
  go_wp2_with fail
  generalize ((w.alloc (.cells #[.int .i64 ax, .int .i64 ay] 37)).alloc (.cells #[.int .i64 cx, .int .i64 cy] 37)) = W at *
  ((with_reducible refine (HFW.out _ hx.w).mono ?_); rintro e w1 ⟨rfl, rfl⟩)
  obtain ⟨c0, c1, c2, c3, -⟩ := hx.s
  cases q with
  | false =>
    go_wp2_with fail
    ((with_reducible refine (HAW.out _ hx.w).mono ?_); rintro e w2 ⟨rfl, hb2⟩)
    have hB := hx.w.nx hb2
    clear hx
    go_wp2
    go_ret
    exact ⟨rfl, hB⟩
  | true =>
    go_wp2_with fail
    ((with_reducible refine (HA.out _ hx.w).mono ?_); rintro e w2 ⟨rfl, hb2⟩)
    have hx2 := hx.later hb2
    obtain ⟨c0, c1, c2, c3, -⟩ := hx2.s
    clear hx
    go_wp2_with fail
    ((with_reducible refine (HB.out _ hx2.w).mono ?_); rintro e w3 ⟨rfl, hb3⟩)
    have hB3 := hx2.w.nx hb3
    clear hx2 c0 c1 c2 c3
    go_wp2_with fail
    ((with_reducible refine (HAW.out _ hB3).mono ?_); rintro e w4 ⟨rfl, hb4⟩)
    have hB4 := hB3.nx hb4
    go_wp2
    go_ret
    exact ⟨ret_bool (by simp), hB4⟩
end Go.Proofs.Wk
