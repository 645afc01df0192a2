/- THE LAW RegisterTexts: the walk. -/
import Derived.Test.YtnhegeifcneiaaaGreatDoorLC
import Derived.Test.YtnhegeifcneiaaaGreatDoorRhW
namespace Go.Proofs.Wk
open Go.RowKit Mt

/-- The entry that came in, two that were read, and what was there before. -/
structure TxB (w0 : World) (b1 b2 : Nat) (e0 e1 e2 : Array Value) (t1 t2 : TypeId) (w : World) : Prop where
  c0 : w.heap[w0.heap.size]? = some (.cells e0 t1 (0, 0))
  c1 : w.heap[b1]? = some (.cells e1 t1 (0, 0))
  c2 : w.heap[b2]? = some (.cells e2 t2 (0, 0))
  w : Below w0.heap.size w0 w
theorem TxB.later {w0 : World} {b1 b2 : Nat} {e0 e1 e2 : Array Value} {t1 t2 : TypeId} {w w' : World} (j : TxB w0 b1 b2 e0 e1 e2 t1 t2 w) (hb : Below w.heap.size w w') : TxB w0 b1 b2 e0 e1 e2 t1 t2 w' :=
  ⟨by rw [hb.block _ (Array.getElem?_eq_some_iff.1 j.c0).1]; exact j.c0, by rw [hb.block _ (Array.getElem?_eq_some_iff.1 j.c1).1]; exact j.c1, by rw [hb.block _ (Array.getElem?_eq_some_iff.1 j.c2).1]; exact j.c2, j.w.trans (hb.mono j.w.size)⟩
set_option maxRecDepth 100000 in
set_option maxHeartbeats 4000000 in
theorem texts_c (x : Rg.En) (s : Txt) (b : Int) (w : World) (hg : GoodS w) (hx : x.lot.length ≤ 140737488355328) (hs : s.length ≤ 140737488355328) :
    Calls Tryz.prog 3 #[entV x, .string ⟨s.toArray⟩, .int .i64 b] w (Ret w (.bool true)) := by
  have HG := Lib.hid hg
  have HA := Lib.hid (fun W (hW : GoodS W) => awake_c W hW.g)
  have HT := Lib.hid (fun W (hW : GoodS W) => Text_c x W hW.g hx)
  have HU := Lib.hid (fun W => rText_c x W hx)
  have HR := Lib.hid (fun W hW => Read_c s W hW hs)
  have hq := fun W => rRead_c s W hs
  rw [← Rg.read_same Rg.reads_numA Rg.reads_numR] at hq
  have HQ := Lib.hid hq
  have HS := Lib.hid (fun W => Sum_c b s W hs)
  have HV := Lib.hid (fun W => rSum_c b s W hs)
  have J := BX.new w #[.int .i64 x.k, .string ⟨x.lot.toArray⟩, .int .i64 x.n] 23
  generalize Rg.readL Rg.numA s = R at *
  generalize Rg.textL x = T at *
  generalize Rg.sumL b s = M at *
  obtain ⟨⟨rk, rl, rn⟩, rc⟩ := R
  obtain ⟨tt, tc⟩ := T
  obtain ⟨k, lot, n⟩ := x
  simp only at J hx
  obtain ⟨d0, d1, d2⟩ := cell3 J.c
  have HJ := Lib.hid J
  have HG1 := Lib.hid (HG.out.later J.w)
  clear J hg hq
  have out : ∀ (h : 60 < lot.length ∨ ¬ 60 < lot.length ∧ ((300 < s.length ∧ s.length ≤ 4096) ∨ 8192 < s.length)), Calls Tryz.prog 3 #[.agg #[.int .i64 k, .string ⟨lot.toArray⟩, .int .i64 n], .string ⟨s.toArray⟩, .int .i64 b] w (Ret w (.bool true)) := by
    intro h
    clear HT HU HR HQ HS HV
    rcases (by omega : 60 < lot.length ∨ (¬ 60 < lot.length ∧ 300 < s.length ∧ s.length ≤ 4096) ∨ (¬ 60 < lot.length ∧ 300 < s.length ∧ ¬ s.length ≤ 4096 ∧ 8192 < s.length)) with h1 | ⟨h1, h2, h3⟩ | ⟨h1, h2, h3, h4⟩
    · have i1 : (60 : Int) < (lot.length : Int) := by omega
      clear h h1
      go_enter Tryz.func3, Tryz.ntmps3
      go_wp2_with fail
      ((with_reducible refine (HA.out _ HG1.out).mono ?_); rintro e w1 ⟨rfl, hb1⟩)
      have J1 := HJ.out.later hb1
      go_wp2
      go_ret
      exact ⟨rfl, J1.w⟩
    · have i1 : ¬ (60 : Int) < (lot.length : Int) := by omega
      have i2 : (300 : Int) < (s.length : Int) := by omega
      have i3 : (s.length : Int) ≤ 4096 := by omega
      clear h h1 h2 h3
      go_enter Tryz.func3, Tryz.ntmps3
      go_wp2_with fail
      ((with_reducible refine (HA.out _ HG1.out).mono ?_); rintro e w1 ⟨rfl, hb1⟩)
      have J1 := HJ.out.later hb1
      go_wp2
      go_ret
      exact ⟨rfl, J1.w⟩
    · have i1 : ¬ (60 : Int) < (lot.length : Int) := by omega
      have i2 : (300 : Int) < (s.length : Int) := by omega
      have i3 : ¬ (s.length : Int) ≤ 4096 := by omega
      have i4 : (8192 : Int) < (s.length : Int) := by omega
      clear h h1 h2 h3 h4
      go_enter Tryz.func3, Tryz.ntmps3
      go_wp2_with fail
      ((with_reducible refine (HA.out _ HG1.out).mono ?_); rintro e w1 ⟨rfl, hb1⟩)
      have J1 := HJ.out.later hb1
      go_wp2
      go_ret
      exact ⟨rfl, J1.w⟩
  by_cases h : 60 < lot.length ∨ ¬ 60 < lot.length ∧ ((300 < s.length ∧ s.length ≤ 4096) ∨ 8192 < s.length)
  · exact out h
  clear out
  have i1 : ¬ (60 : Int) < (lot.length : Int) := by omega
  have i4 : ¬ (8192 : Int) < (s.length : Int) := by omega
  rcases (by omega : ¬ 300 < s.length ∨ (300 < s.length ∧ ¬ s.length ≤ 4096)) with h2 | ⟨h2, h3⟩
  · have i2 : ¬ (300 : Int) < (s.length : Int) := by omega
    clear h h2
    go_enter Tryz.func3, Tryz.ntmps3
    go_wp2_with fail
    ((with_reducible refine (HT.out _ HG1.out).mono ?_); rintro e w1 ⟨rfl, hb1⟩)
    have J1 := HJ.out.later hb1
    obtain ⟨f0, f1, f2⟩ := cell3 J1.c
    have HJ1 := Lib.hid J1
    have HG2 := Lib.hid (HG.out.later J1.w)
    clear J1 hb1 HT HG1 d0 d1 d2 HJ
    go_wp2_with fail
    ((with_reducible refine (HU.out _).mono ?_); rintro e w2 ⟨rfl, hb2⟩)
    have HJ2 := Lib.hid (HJ1.out.later hb2)
    have HG3 := Lib.hid (HG.out.later HJ2.out.w)
    clear hb2 HU HG2 f0 f1 f2 HJ1
    go_wp2_with fail
    ((with_reducible refine (HR.out _ HG3.out).mono ?_); rintro e w3 ⟨rfl, hb3⟩)
    have HJ3 := Lib.hid (HJ2.out.later hb3)
    clear hb3 HR HG3 HJ2
    go_wp2_with fail
    ((with_reducible refine (HQ.out _).mono ?_); rintro e w4 ⟨rfl, hb4⟩)
    have j4 : TxB w w3.heap.size w4.heap.size #[.int .i64 k, .string ⟨lot.toArray⟩, .int .i64 n] #[.int .i64 rk, .string ⟨rl.toArray⟩, .int .i64 rn] #[.int .i64 rk, .string ⟨rl.toArray⟩, .int .i64 rn] 23 30 (w4.alloc (.cells #[.int .i64 rk, .string ⟨rl.toArray⟩, .int .i64 rn] 30)) := by
      have b3 : Below w3.heap.size w3 (w3.alloc (.cells #[.int .i64 rk, .string ⟨rl.toArray⟩, .int .i64 rn] 23)) := (Below.refl _ _).alloc (Nat.le_refl _) _
      have b4 : Below w4.heap.size w4 (w4.alloc (.cells #[.int .i64 rk, .string ⟨rl.toArray⟩, .int .i64 rn] 30)) := (Below.refl _ _).alloc (Nat.le_refl _) _
      have j := ((HJ3.out.later b3).later hb4).later b4
      have hn := heap_alloc_new w3 (.cells #[.int .i64 rk, .string ⟨rl.toArray⟩, .int .i64 rn] 23)
      refine ⟨j.c, ?_, heap_alloc_new _ _, j.w⟩
      rw [b4.block _ (Nat.lt_of_lt_of_le (alloc_lt w3 _) hb4.size), hb4.block _ (alloc_lt w3 _)]
      exact hn
    have HJ4 := Lib.hid j4
    have HG4 := Lib.hid (HG.out.later j4.w)
    clear j4 hb4 HQ HJ3
    go_upto_region 7 with fail
    generalize w4.alloc (.cells #[.int .i64 rk, .string ⟨rl.toArray⟩, .int .i64 rn] 30) = W4 at *
    generalize w4.heap.size = b2 at *
    generalize w3.heap.size = b1 at *
    go_wp2_with fail
    ((with_reducible refine (HA.out _ HG4.out).mono ?_); rintro e w5 ⟨rfl, hb5⟩)
    have J5 := HJ4.out.later hb5
    obtain ⟨f0, f1, f2⟩ := cell3 J5.c1
    obtain ⟨g0, g1, g2⟩ := cell3 J5.c2
    have HJ5 := Lib.hid J5
    clear J5 hb5 HA HG4 HJ4
    go_wp2_with fail
    ((with_reducible refine (HS.out _).mono ?_); rintro e w6 ⟨rfl, hb6⟩)
    have HJ6 := Lib.hid (HJ5.out.later hb6)
    clear hb6 HS HJ5 f0 f1 f2 g0 g1 g2
    go_wp2_with fail
    ((with_reducible refine (HV.out _).mono ?_); rintro e w7 ⟨rfl, rfl⟩)
    go_wp2
    go_ret
    exact ⟨rfl, HJ6.out.w⟩
  · have i2 : (300 : Int) < (s.length : Int) := by omega
    have i3 : ¬ (s.length : Int) ≤ 4096 := by omega
    clear h h2 h3
    go_enter Tryz.func3, Tryz.ntmps3
    go_wp2_with fail
    ((with_reducible refine (HT.out _ HG1.out).mono ?_); rintro e w1 ⟨rfl, hb1⟩)
    have J1 := HJ.out.later hb1
    obtain ⟨f0, f1, f2⟩ := cell3 J1.c
    have HJ1 := Lib.hid J1
    have HG2 := Lib.hid (HG.out.later J1.w)
    clear J1 hb1 HT HG1 d0 d1 d2 HJ
    go_wp2_with fail
    ((with_reducible refine (HU.out _).mono ?_); rintro e w2 ⟨rfl, hb2⟩)
    have HJ2 := Lib.hid (HJ1.out.later hb2)
    have HG3 := Lib.hid (HG.out.later HJ2.out.w)
    clear hb2 HU HG2 f0 f1 f2 HJ1
    go_wp2_with fail
    ((with_reducible refine (HR.out _ HG3.out).mono ?_); rintro e w3 ⟨rfl, hb3⟩)
    have HJ3 := Lib.hid (HJ2.out.later hb3)
    clear hb3 HR HG3 HJ2
    go_wp2_with fail
    ((with_reducible refine (HQ.out _).mono ?_); rintro e w4 ⟨rfl, hb4⟩)
    have j4 : TxB w w3.heap.size w4.heap.size #[.int .i64 k, .string ⟨lot.toArray⟩, .int .i64 n] #[.int .i64 rk, .string ⟨rl.toArray⟩, .int .i64 rn] #[.int .i64 rk, .string ⟨rl.toArray⟩, .int .i64 rn] 23 30 (w4.alloc (.cells #[.int .i64 rk, .string ⟨rl.toArray⟩, .int .i64 rn] 30)) := by
      have b3 : Below w3.heap.size w3 (w3.alloc (.cells #[.int .i64 rk, .string ⟨rl.toArray⟩, .int .i64 rn] 23)) := (Below.refl _ _).alloc (Nat.le_refl _) _
      have b4 : Below w4.heap.size w4 (w4.alloc (.cells #[.int .i64 rk, .string ⟨rl.toArray⟩, .int .i64 rn] 30)) := (Below.refl _ _).alloc (Nat.le_refl _) _
      have j := ((HJ3.out.later b3).later hb4).later b4
      have hn := heap_alloc_new w3 (.cells #[.int .i64 rk, .string ⟨rl.toArray⟩, .int .i64 rn] 23)
      refine ⟨j.c, ?_, heap_alloc_new _ _, j.w⟩
      rw [b4.block _ (Nat.lt_of_lt_of_le (alloc_lt w3 _) hb4.size), hb4.block _ (alloc_lt w3 _)]
      exact hn
    have HJ4 := Lib.hid j4
    have HG4 := Lib.hid (HG.out.later j4.w)
    clear j4 hb4 HQ HJ3
    go_upto_region 7 with fail
    generalize w4.alloc (.cells #[.int .i64 rk, .string ⟨rl.toArray⟩, .int .i64 rn] 30) = W4 at *
    generalize w4.heap.size = b2 at *
    generalize w3.heap.size = b1 at *
    go_wp2_with fail
    ((with_reducible refine (HA.out _ HG4.out).mono ?_); rintro e w5 ⟨rfl, hb5⟩)
    have J5 := HJ4.out.later hb5
    obtain ⟨f0, f1, f2⟩ := cell3 J5.c1
    obtain ⟨g0, g1, g2⟩ := cell3 J5.c2
    have HJ5 := Lib.hid J5
    clear J5 hb5 HA HG4 HJ4
    go_wp2_with fail
    ((with_reducible refine (HS.out _).mono ?_); rintro e w6 ⟨rfl, hb6⟩)
    have HJ6 := Lib.hid (HJ5.out.later hb6)
    clear hb6 HS HJ5 f0 f1 f2 g0 g1 g2
    go_wp2_with fail
    ((with_reducible refine (HV.out _).mono ?_); rintro e w7 ⟨rfl, rfl⟩)
    go_wp2
    go_ret
    exact ⟨rfl, HJ6.out.w⟩
end Go.Proofs.Wk
