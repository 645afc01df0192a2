/- STRAIGHTNESS: the law of Width and Ends, walked. -/
import Derived.Test.YtjopphkhpmoedaaGreatDoorNN
namespace Go.Proofs.Wk
open Go.RowKit Mt

theorem widV_ex (ls : List St.Pt) : ∃ (T : Txt) (i j f E : Int), widV ls = .tuple #[.string ⟨T.toArray⟩, .agg #[.int .i64 i, .int .i64 j], .int .i64 f, .int .i64 E] := by
  unfold widV
  by_cases h : St.givP ls = 0
  · rw [if_pos h]; exact ⟨_, _, _, _, _, rfl⟩
  · rw [if_neg h]; exact ⟨[], _, _, _, _, rfl⟩
theorem keep_row {w w' : World} {g : Nat} {o : Obj} (h : w.heap[g]? = some o) (hb : Below w.heap.size w w') : w'.heap[g]? = some o := (hb.block _ (Array.getElem?_eq_some_iff.1 h).1).trans h
set_option maxRecDepth 100000 in
set_option maxHeartbeats 4000000 in
theorem widths_c {v : Value} (ls : List St.Pt) (w : World) (hg : Good w) (S : SlX w v ls) (hln : ls.length ≤ 140737488355328) : Calls Tryz.prog 9 #[v] w (Ret w (.bool true)) := by
  have HFW := Lib.hid (rFewP_c ls w S hln)
  have HAW := Lib.hid (fun W (h : Below w.heap.size w W) => awake_c W (hg.later h))
  have h1 := fun W (h : Below w.heap.size w W) => Width_c ls W (hg.later h) (S.later h) hln
  have h2 := fun W (h : Below w.heap.size w W) => rWidth_c ls W (S.later h) hln
  obtain ⟨T, i, j, f, E, hv⟩ := widV_ex ls
  rw [hv] at h1 h2
  have HW1 := Lib.hid h1
  have HW2 := Lib.hid h2
  have HE1 := Lib.hid (fun W (h : Below w.heap.size w W) => Ends_c ls W (hg.later h) (S.later h) hln)
  have HE2 := Lib.hid (fun W (h : Below w.heap.size w W) => rEnds_c ls W (S.later h) hln)
  obtain ⟨sa, cap, rfl⟩ := S.len
  generalize fewP ls.length = q at *
  generalize endE ls = r at *
  obtain ⟨T2, E2⟩ := r
  have ae := fun W => ar_eql i j i j W
  rw [show (i == i && j == j) = true by simp] at ae
  clear S hg hln h1 h2 hv
  go_enter Tryz.func9, Tryz.ntmps9
  go_wp2_with fail
  ((with_reducible refine (HFW.out).mono ?_); rintro e w1 ⟨rfl, rfl⟩)
  cases q with
  | false =>
    go_wp2_with fail
    ((with_reducible refine (HAW.out _ (Below.refl _ _)).mono ?_); rintro e w2 ⟨rfl, hb2⟩)
    go_wp2
    go_ret
    exact ⟨rfl, hb2⟩
  | true =>
    go_wp2_with fail
    ((with_reducible refine (HW1.out _ (Below.refl _ _)).mono ?_); rintro e w2 ⟨rfl, hB2⟩)
    have k1 := heap_alloc_new w2 (.cells #[.int .i64 i, .int .i64 j] 47)
    have hB3 := hB2.nx (below_al w2 (.cells #[.int .i64 i, .int .i64 j] 47))
    go_wp2_with fail
    generalize w2.alloc (.cells #[.int .i64 i, .int .i64 j] 47) = w3 at *
    generalize w2.heap.size = g1 at *
    ((with_reducible refine (HW2.out _ hB3).mono ?_); rintro e w4 ⟨rfl, hb4⟩)
    replace k1 := keep_row (keep_row k1 hb4) (below_al w4 (.cells #[.int .i64 i, .int .i64 j] 47))
    have k2 := heap_alloc_new w4 (.cells #[.int .i64 i, .int .i64 j] 47)
    have hB5 := (hB3.nx hb4).nx (below_al w4 (.cells #[.int .i64 i, .int .i64 j] 47))
    clear hb4 hB3 hB2
    go_wp2_with fail
    generalize w4.alloc (.cells #[.int .i64 i, .int .i64 j] 47) = w5 at *
    generalize w4.heap.size = g2 at *
    ((with_reducible refine (HE1.out _ hB5).mono ?_); rintro e w6 ⟨rfl, hb6⟩)
    have hB6 := hB5.nx hb6
    replace k1 := keep_row k1 hb6
    replace k2 := keep_row k2 hb6
    clear hB5 hb6
    go_wp2_with fail
    ((with_reducible refine (HE2.out _ hB6).mono ?_); rintro e w7 ⟨rfl, hb7⟩)
    have hB7 := hB6.nx hb7
    replace k1 := keep_row k1 hb7
    replace k2 := keep_row k2 hb7
    clear hB6 hb7
    go_wp2_with fail
    ((with_reducible refine (HAW.out _ hB7).mono ?_); rintro e w8 ⟨rfl, hb8⟩)
    have hB8 := hB7.nx hb8
    replace k1 := keep_row k1 hb8
    replace k2 := keep_row k2 hb8
    obtain ⟨l0, l1⟩ := c2row k1
    obtain ⟨l2, l3⟩ := c2row k2
    clear hB7 hb8 k1 k2
    go_wp2
    go_ret
    exact ⟨ret_bool (by simp), hB8⟩
end Go.Proofs.Wk
