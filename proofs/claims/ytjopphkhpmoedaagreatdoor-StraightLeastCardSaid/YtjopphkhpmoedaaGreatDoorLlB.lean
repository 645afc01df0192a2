/- STRAIGHTNESS: the law of the least width, walked. -/
import Derived.Test.YtjopphkhpmoedaaGreatDoorLlA
import Derived.Test.YtjopphkhpmoedaaGreatDoorNP
import Derived.Deep.RegionHeld3
namespace Go.Proofs.Wk
open Go.RowKit Mt

/-- The boxes of the law. -/
structure LbR (w W : World) (v : Value) (a b : St.Pt) : Prop where
  l : W.heap[w.heap.size]? = some (.cells #[v] 22 (0, 0))
  a : W.heap[w.heap.size + 1]? = some (.cells #[.int .i64 a.x, .int .i64 a.y] 37 (0, 0))
  b : W.heap[w.heap.size + 2]? = some (.cells #[.int .i64 b.x, .int .i64 b.y] 37 (0, 0))
  w : Below w.heap.size w W
theorem LbR.later {w W W' : World} {v : Value} {a b : St.Pt} (h : LbR w W v a b) (hb : Below W.heap.size W W') : LbR w W' v a b := ⟨keepR h.l hb, keepR h.a hb, keepR h.b hb, h.w.nx hb⟩
theorem LbR.new (w : World) (v : Value) (a b : St.Pt) : LbR w (((w.alloc (.cells #[v] 22)).alloc (.cells #[.int .i64 a.x, .int .i64 a.y] 37)).alloc (.cells #[.int .i64 b.x, .int .i64 b.y] 37)) v a b := by
  have s1 : (w.alloc (.cells #[v] 22)).heap.size = w.heap.size + 1 := by simp
  have h0 := heap_alloc_new w (.cells #[v] 22)
  have b0 := below_al w (.cells #[v] 22)
  generalize w.alloc (.cells #[v] 22) = W1 at *
  have s2 : (W1.alloc (.cells #[.int .i64 a.x, .int .i64 a.y] 37)).heap.size = w.heap.size + 2 := by simp; omega
  have h1 := alloc_at (o := .cells #[.int .i64 a.x, .int .i64 a.y] 37) s1
  have b1 := below_al W1 (.cells #[.int .i64 a.x, .int .i64 a.y] 37)
  generalize W1.alloc (.cells #[.int .i64 a.x, .int .i64 a.y] 37) = W2 at *
  have h2 := alloc_at (o := .cells #[.int .i64 b.x, .int .i64 b.y] 37) s2
  have b2 := below_al W2 (.cells #[.int .i64 b.x, .int .i64 b.y] 37)
  exact ⟨keepR (keepR h0 b1) b2, keepR h1 b2, h2, (b0.nx b1).nx b2⟩
theorem LbR.t {w W : World} {v : Value} {a b : St.Pt} (h : LbR w W v a b) : W.cell? ⟨w.heap.size, 0, none⟩ = some v ∧ W.cell? ⟨w.heap.size + 1, 0, none⟩ = some (.int .i64 a.x) ∧ W.cell? ⟨w.heap.size + 1, 1, none⟩ = some (.int .i64 a.y) ∧
    W.cell? ⟨w.heap.size + 2, 0, none⟩ = some (.int .i64 b.x) ∧ W.cell? ⟨w.heap.size + 2, 1, none⟩ = some (.int .i64 b.y) := ⟨c1row h.l, (c2row h.a).1, (c2row h.a).2, (c2row h.b).1, (c2row h.b).2⟩
set_option maxRecDepth 100000 in
set_option maxHeartbeats 4000000 in
/-- Where the premises fail. -/
theorem least_awake {v : Value} (ls : List St.Pt) (a c : St.Pt) (w : World) (hg : Good w) (S : SlX w v ls) (hln : ls.length ≤ 140737488355328) (h : ¬ (rightB ls = true ∧ St.inB a = true ∧ St.inB c = true ∧ a ≠ c)) :
    Calls Tryz.prog 10 #[v, ptV a, ptV c] w (Ret w (.bool true)) := by
  have HRI := Lib.hid (fun W (h : Below w.heap.size w W) => right_c ls W (S.later h) hln)
  have HRA := Lib.hid (fun W => rRight_p a W)
  have HRC := Lib.hid (fun W => rRight_p c W)
  have HAW := Lib.hid (fun W (h : Below w.heap.size w W) => awake_c W (hg.later h))
  obtain ⟨sa, cap, rfl⟩ := S.len
  have hn := LbR.new w (.slice sa ls.length cap) a c
  have pe := fun W => pt_eql a.x a.y c.x c.y W
  rw [pt_beq] at pe
  have hac := fun h1 h2 h3 => Decidable.not_not.1 (fun h4 : ¬ a = c => h ⟨h1, h2, h3, h4⟩)
  generalize rightB ls = q at *
  generalize St.inB a = qa at *
  generalize St.inB c = qc at *
  cases q with
  | false =>
    obtain ⟨ax, ay⟩ := a
    obtain ⟨cx, cy⟩ := c
    simp only at hn
    clear h S hg hac
    go_enter Tryz.func10, Tryz.ntmps10
    go_wp2_with fail
    generalize (((w.alloc (.cells #[.slice sa ls.length cap] 22)).alloc (.cells #[.int .i64 ax, .int .i64 ay] 37)).alloc (.cells #[.int .i64 cx, .int .i64 cy] 37)) = W at *
    have h0 := hn
    obtain ⟨c0, c1, c2, c3, c4⟩ := h0.t
    go_wp2_with fail
    ((with_reducible refine (HRI.out _ h0.w).mono ?_); rintro e w1 ⟨rfl, hb1⟩)
    have h1 := h0.later hb1
    clear c0 c1 c2 c3 c4 hb1
    obtain ⟨c0, c1, c2, c3, c4⟩ := h1.t
    go_wp2_with fail
    ((with_reducible refine (HAW.out _ h1.w).mono ?_); rintro e w9 ⟨rfl, hb9⟩)
    have hB9 := h1.w.nx hb9
    clear c0 c1 c2 c3 c4 h0 h1 hb9 hn
    go_wp2
    go_ret
    exact ⟨rfl, hB9⟩
  | true =>
    cases qa with
    | false =>
      obtain ⟨ax, ay⟩ := a
      obtain ⟨cx, cy⟩ := c
      simp only at hn
      clear h S hg hac
      go_enter Tryz.func10, Tryz.ntmps10
      go_wp2_with fail
      generalize (((w.alloc (.cells #[.slice sa ls.length cap] 22)).alloc (.cells #[.int .i64 ax, .int .i64 ay] 37)).alloc (.cells #[.int .i64 cx, .int .i64 cy] 37)) = W at *
      have h0 := hn
      obtain ⟨c0, c1, c2, c3, c4⟩ := h0.t
      go_wp2_with fail
      ((with_reducible refine (HRI.out _ h0.w).mono ?_); rintro e w1 ⟨rfl, hb1⟩)
      have h1 := h0.later hb1
      clear c0 c1 c2 c3 c4 hb1
      obtain ⟨c0, c1, c2, c3, c4⟩ := h1.t
      go_wp2_with fail
      ((with_reducible refine (HRA.out _).mono ?_); rintro e w2 ⟨rfl, hb2⟩)
      have h2 := h1.later hb2
      clear c0 c1 c2 c3 c4 hb2
      obtain ⟨c0, c1, c2, c3, c4⟩ := h2.t
      go_wp2_with fail
      ((with_reducible refine (HAW.out _ h2.w).mono ?_); rintro e w9 ⟨rfl, hb9⟩)
      have hB9 := h2.w.nx hb9
      clear c0 c1 c2 c3 c4 h0 h1 h2 hb9 hn
      go_wp2
      go_ret
      exact ⟨rfl, hB9⟩
    | true =>
      cases qc with
      | false =>
        obtain ⟨ax, ay⟩ := a
        obtain ⟨cx, cy⟩ := c
        simp only at hn
        clear h S hg hac
        go_enter Tryz.func10, Tryz.ntmps10
        go_wp2_with fail
        generalize (((w.alloc (.cells #[.slice sa ls.length cap] 22)).alloc (.cells #[.int .i64 ax, .int .i64 ay] 37)).alloc (.cells #[.int .i64 cx, .int .i64 cy] 37)) = W at *
        have h0 := hn
        obtain ⟨c0, c1, c2, c3, c4⟩ := h0.t
        go_wp2_with fail
        ((with_reducible refine (HRI.out _ h0.w).mono ?_); rintro e w1 ⟨rfl, hb1⟩)
        have h1 := h0.later hb1
        clear c0 c1 c2 c3 c4 hb1
        obtain ⟨c0, c1, c2, c3, c4⟩ := h1.t
        go_wp2_with fail
        ((with_reducible refine (HRA.out _).mono ?_); rintro e w2 ⟨rfl, hb2⟩)
        have h2 := h1.later hb2
        clear c0 c1 c2 c3 c4 hb2
        obtain ⟨c0, c1, c2, c3, c4⟩ := h2.t
        go_wp2_with fail
        ((with_reducible refine (HRC.out _).mono ?_); rintro e w3 ⟨rfl, hb3⟩)
        have h3 := h2.later hb3
        clear c0 c1 c2 c3 c4 hb3
        obtain ⟨c0, c1, c2, c3, c4⟩ := h3.t
        go_wp2_with fail
        ((with_reducible refine (HAW.out _ h3.w).mono ?_); rintro e w9 ⟨rfl, hb9⟩)
        have hB9 := h3.w.nx hb9
        clear c0 c1 c2 c3 c4 h0 h1 h2 h3 hb9 hn
        go_wp2
        go_ret
        exact ⟨rfl, hB9⟩
      | true =>
        obtain rfl := hac rfl rfl rfl
        rw [decide_eq_true rfl] at pe
        obtain ⟨ax, ay⟩ := a
        skip
        simp only at hn
        clear h S hg hac
        go_enter Tryz.func10, Tryz.ntmps10
        go_wp2_with fail
        generalize (((w.alloc (.cells #[.slice sa ls.length cap] 22)).alloc (.cells #[.int .i64 ax, .int .i64 ay] 37)).alloc (.cells #[.int .i64 ax, .int .i64 ay] 37)) = W at *
        have h0 := hn
        obtain ⟨c0, c1, c2, c3, c4⟩ := h0.t
        go_wp2_with fail
        ((with_reducible refine (HRI.out _ h0.w).mono ?_); rintro e w1 ⟨rfl, hb1⟩)
        have h1 := h0.later hb1
        clear c0 c1 c2 c3 c4 hb1
        obtain ⟨c0, c1, c2, c3, c4⟩ := h1.t
        go_wp2_with fail
        ((with_reducible refine (HRA.out _).mono ?_); rintro e w2 ⟨rfl, hb2⟩)
        have h2 := h1.later hb2
        clear c0 c1 c2 c3 c4 hb2
        obtain ⟨c0, c1, c2, c3, c4⟩ := h2.t
        go_wp2_with fail
        ((with_reducible refine (HRC.out _).mono ?_); rintro e w3 ⟨rfl, hb3⟩)
        have h3 := h2.later hb3
        clear c0 c1 c2 c3 c4 hb3
        obtain ⟨c0, c1, c2, c3, c4⟩ := h3.t
        go_wp2_with fail
        ((with_reducible refine (HAW.out _ h3.w).mono ?_); rintro e w9 ⟨rfl, hb9⟩)
        have hB9 := h3.w.nx hb9
        clear c0 c1 c2 c3 c4 h0 h1 h2 h3 hb9 hn
        go_wp2
        go_ret
        exact ⟨rfl, hB9⟩
end Go.Proofs.Wk
