/- STRAIGHTNESS: the law of triangles, walked. -/
import Derived.Test.YtjopphkhpmoedaaGreatDoorLsW
import Derived.Deep.RegionHeld3
namespace Go.Proofs.Wk
open Go.RowKit Mt

/-- Three points that lie in a row. -/
structure TrR (w W : World) (g : Nat) (a b c : St.Pt) : Prop where
  r : W.heap[g]? = some (.cells #[.int .i64 a.x, .int .i64 a.y, .int .i64 b.x, .int .i64 b.y, .int .i64 c.x, .int .i64 c.y] 45 (0, 0))
  w : Below w.heap.size w W
theorem TrR.later {w W W' : World} {g : Nat} {a b c : St.Pt} (h : TrR w W g a b c) (hb : Below W.heap.size W W') : TrR w W' g a b c := ⟨keep_row h.r hb, h.w.nx hb⟩
theorem TrR.drew {w W : World} {g : Nat} {a b c : St.Pt} (h : TrR w W g a b c) : TrR w W.drew g a b c := ⟨h.r, h.w.drew⟩
theorem TrR.t {w W : World} {g : Nat} {a b c : St.Pt} (h : TrR w W g a b c) : W.cell? ⟨g, 0, none⟩ = some (.int .i64 a.x) ∧ W.cell? ⟨g, 1, none⟩ = some (.int .i64 a.y) ∧ W.cell? ⟨g, 2, none⟩ = some (.int .i64 b.x) ∧ W.cell? ⟨g, 3, none⟩ = some (.int .i64 b.y) ∧
    W.cell? ⟨g, 4, none⟩ = some (.int .i64 c.x) ∧ W.cell? ⟨g, 5, none⟩ = some (.int .i64 c.y) ∧ TrR w W g a b c :=
  ⟨by rw [cell_of_row _ _ _ _ _ _ h.r]; rfl, by rw [cell_of_row _ _ _ _ _ _ h.r]; rfl, by rw [cell_of_row _ _ _ _ _ _ h.r]; rfl, by rw [cell_of_row _ _ _ _ _ _ h.r]; rfl, by rw [cell_of_row _ _ _ _ _ _ h.r]; rfl, by rw [cell_of_row _ _ _ _ _ _ h.r]; rfl, h⟩
theorem TrR.new (w : World) (a b c : St.Pt) : TrR w (w.alloc (.cells #[.int .i64 a.x, .int .i64 a.y, .int .i64 b.x, .int .i64 b.y, .int .i64 c.x, .int .i64 c.y] 45)) w.heap.size a b c := ⟨heap_alloc_new w _, below_al w _⟩
theorem chkP_three (a b c : St.Pt) : St.chkP [a, b, c] = 0 → St.InP a ∧ St.InP b ∧ St.InP c := fun h => by
  have h0 : St.givP [a, b, c] = 0 := by unfold St.givP; rw [if_pos h]; rfl
  obtain ⟨-, -, h3⟩ := St.givP_in h0
  exact ⟨h3 _ (by simp), h3 _ (by simp), h3 _ (by simp)⟩
theorem giv_three {a b c : St.Pt} (h : St.chkP [a, b, c] = 0) : St.givP [a, b, c] = 0 := by unfold St.givP; rw [if_pos h]; rfl
theorem far_bd3 {a b : St.Pt} (ha : St.InP a) (hb : St.InP b) : 0 ≤ St.far a b ∧ St.far a b ≤ 80000000000 := ⟨St.far_nonneg a b, (St.far_bd ha hb).2.2.2⟩
set_option maxRecDepth 100000 in
set_option maxHeartbeats 4000000 in
theorem triangles_c (a b c : St.Pt) (w : World) (hg : Good w) : Calls Tryz.prog 5 #[.agg #[.int .i64 a.x, .int .i64 a.y, .int .i64 b.x, .int .i64 b.y, .int .i64 c.x, .int .i64 c.y]] w (Ret w (.bool true)) := by
  have HAW := Lib.hid (fun W (h : Below w.heap.size w W) => awake_c W (hg.later h))
  have HG := Lib.hid (fun (W : World) (h : Below w.heap.size w W) => hg.later h)
  have hsl := sl3 w a b c 45
  have HS := Lib.hid (fun W (h : Below (w.alloc (.cells #[.int .i64 a.x, .int .i64 a.y, .int .i64 b.x, .int .i64 b.y, .int .i64 c.x, .int .i64 c.y] 45)).heap.size (w.alloc (.cells #[.int .i64 a.x, .int .i64 a.y, .int .i64 b.x, .int .i64 b.y, .int .i64 c.x, .int .i64 c.y] 45)) W) => hsl.later h)
  have HCK := Lib.hid (fun v W S => rpCheck_c (v := v) [a, b, c] W S (by simp))
  have hn := TrR.new w a b c
  have pe1 := fun W => pt_eql a.x a.y b.x b.y W
  have pe2 := fun W => pt_eql b.x b.y c.x c.y W
  rw [pt_beq] at pe1 pe2
  by_cases h0 : St.chkP [a, b, c] = 0
  rotate_left
  · generalize St.chkP [a, b, c] = E at *
    have z : (E != 0) = true := bne_iff_ne.2 h0
    obtain ⟨ax, ay⟩ := a
    obtain ⟨bx, by_⟩ := b
    obtain ⟨cx, cy⟩ := c
    simp only at hn hsl
    clear h0 HS
    go_enter Tryz.func5, Tryz.ntmps5
    go_wp2_with fail
    generalize (w.alloc (.cells #[.int .i64 ax, .int .i64 ay, .int .i64 bx, .int .i64 by_, .int .i64 cx, .int .i64 cy] 45)) = W at *
    ((with_reducible refine (HCK.out _ _ hsl).mono ?_); rintro e w1 ⟨rfl, hb1⟩)
    have hB := hn.w.nx hb1
    clear hn hsl
    go_wp2_with fail
    ((with_reducible refine (HAW.out _ hB).mono ?_); rintro e w2 ⟨rfl, hb2⟩)
    have hB2 := hB.nx hb2
    go_wp2
    go_ret
    exact ⟨rfl, hB2⟩
  obtain ⟨ia, ib, ic⟩ := chkP_three a b c h0
  by_cases hs : a = b ∧ b = c
  · obtain ⟨rfl, rfl⟩ := hs
    rw [h0] at HCK
    rw [decide_eq_true rfl] at pe1 pe2
    clear pe2
    obtain ⟨ax, ay⟩ := a
    simp only at hn hsl
    clear h0 HS
    go_enter Tryz.func5, Tryz.ntmps5
    go_wp2_with fail
    generalize (w.alloc (.cells #[.int .i64 ax, .int .i64 ay, .int .i64 ax, .int .i64 ay, .int .i64 ax, .int .i64 ay] 45)) = W at *
    ((with_reducible refine (HCK.out _ _ hsl).mono ?_); rintro e w1 ⟨rfl, hb1⟩)
    have hn1 := hn.later hb1
    obtain ⟨c0, c1, c2, c3, c4, c5, -⟩ := hn1.t
    have hB := hn1.w
    clear hn hsl hn1
    go_wp2_with fail
    ((with_reducible refine (HAW.out _ hB).mono ?_); rintro e w2 ⟨rfl, hb2⟩)
    have hB2 := hB.nx hb2
    go_wp2
    go_ret
    exact ⟨rfl, hB2⟩
  · have hwt := St.wid_tri hs
    have hgi := giv_three h0
    have hw1 := fun v W hg S => Width_c (v := v) [a, b, c] W hg S (by simp)
    rw [show widV [a, b, c] = _ from if_pos hgi, bsQ_wid, hwt] at hw1
    rw [h0] at HCK
    have F1 := Lib.hid (fun W => rFar_c a b W ia ib)
    have F2 := Lib.hid (fun W => rFar_c b c W ib ic)
    have F3 := Lib.hid (fun W => rFar_c c a W ic ia)
    have HL := Lib.hid (fun W => rLeft_c a b c W ia ib ic)
    obtain ⟨-, -, l1, l2⟩ := St.left_bd ia ib ic
    have b1 := far_bd3 ia ib
    have b2 := far_bd3 ib ic
    have b3 := far_bd3 ic ia
    have hd : 0 < max (max (St.far a b) (St.far b c)) (St.far c a) := by
      by_cases e : a = b
      · have := St.far_pos (a := b) (b := c) (fun e2 => hs ⟨e, e2⟩); omega
      · have := St.far_pos e; omega
    have HRT := Lib.hid (fun W => rRatio_c (St.left a b c) (max (max (St.far a b) (St.far b c)) (St.far c a)) W (by omega) ⟨hd, by omega⟩)
    generalize rtoa (Rat.divInt (St.left a b c * St.left a b c) (max (max (St.far a b) (St.far b c)) (St.far c a))) = T at *
    generalize bsI (St.least [a, b, c]) = xi at *
    generalize bsJ (St.least [a, b, c]) = xj at *
    generalize bsF (St.least [a, b, c]) = xf at *
    have HW1 := Lib.hid hw1
    generalize St.left a b c = n at *
    generalize St.far a b = d1 at *
    generalize St.far b c = d2 at *
    generalize St.far c a = d3 at *
    by_cases e1 : a = b
    all_goals
      first
      | (have e2 : ¬ b = c := fun e2 => hs ⟨e1, e2⟩
         rw [decide_eq_true e1] at pe1
         rw [decide_eq_false e2] at pe2)
      | (rw [decide_eq_false e1] at pe1)
      clear hs h0 hw1 hwt hgi ia ib ic l1 l2 b1 b2 b3 hd e1
      obtain ⟨ax, ay⟩ := a
      obtain ⟨bx, by_⟩ := b
      obtain ⟨cx, cy⟩ := c
      simp only at hn hsl HS F1 F2 F3 HL pe1 pe2
      go_enter Tryz.func5, Tryz.ntmps5
      go_wp2_with fail
      generalize (w.alloc (.cells #[.int .i64 ax, .int .i64 ay, .int .i64 bx, .int .i64 by_, .int .i64 cx, .int .i64 cy] 45)) = W at *
      ((with_reducible refine (HCK.out _ _ hsl).mono ?_); rintro e w1 ⟨rfl, hb1⟩)
      have hn1 := hn.later hb1
      obtain ⟨c0, c1, c2, c3, c4, c5, -⟩ := hn1.t
      clear HCK
      go_wp2_with fail
      ((with_reducible refine (HW1.out _ _ (HG.out _ hn1.w) (hsl.later hb1)).mono ?_); rintro e w2 ⟨rfl, hb2⟩)
      have hb3 := hb1.nx hb2
      have hn2 := hn1.later hb2
      have hn3 := hn2.later (below_al w2 (.cells #[.int .i64 (xi : Int), .int .i64 (xj : Int)] 47))
      clear c0 c1 c2 c3 c4 c5 hb3 hb1 hb2 hn2 hn1
      have HR0 := Lib.hid hn3
      clear hn3 hn hsl
      go_wp2_with fail
      generalize w2.alloc (.cells #[.int .i64 (xi : Int), .int .i64 (xj : Int)] 47) = w3 at *
      generalize hgg : w.heap.size = g at *
      go_region_held3 (fun w' => w'.cell? ⟨g, 0, none⟩ = some (.int .i64 ax) ∧ w'.cell? ⟨g, 1, none⟩ = some (.int .i64 ay) ∧ w'.cell? ⟨g, 2, none⟩ = some (.int .i64 bx) ∧ w'.cell? ⟨g, 3, none⟩ = some (.int .i64 by_) ∧
          w'.cell? ⟨g, 4, none⟩ = some (.int .i64 cx) ∧ w'.cell? ⟨g, 5, none⟩ = some (.int .i64 cy) ∧ TrR w w' g ⟨ax, ay⟩ ⟨bx, by_⟩ ⟨cx, cy⟩)
        (first | exact J3.t | exact J2.t | exact J1.t | exact HR0.out.t | exact HR0.out.drew.t)
        (first
          | (go_at_call 22; (with_reducible refine (F1.out _).mono ?_); rintro e w4 ⟨rfl, hb4⟩; (first | have J1 := HR0.out.drew.later hb4 | have J1 := HR0.out.later hb4))
          | (go_at_call 22; (with_reducible refine (F2.out _).mono ?_); rintro e w5 ⟨rfl, hb5⟩; (have J2 := J1.later hb5))
          | (go_at_call 22; (with_reducible refine (F3.out _).mono ?_); rintro e w6 ⟨rfl, hb6⟩; (have J3 := J2.later hb6))
          | fail)
      all_goals
        subst hgg
        obtain ⟨c0, c1, c2, c3, c4, c5, -⟩ := J3.t
        have hB := J3.w
        clear J3 J2 J1 HR0 F1 F2 F3 HW1 HS hb4 hb5 hb6
        go_wp2_with fail
        all_goals
          ((with_reducible refine (HL.out _).mono ?_); rintro e w7 ⟨rfl, hb7⟩)
          have hB7 := hB.nx hb7
          go_wp2_with fail
          have hq := HRT.out
          first
          | (rw [show max (max d1 d2) d3 = d3 by omega] at hq)
          | (rw [show max (max d1 d2) d3 = d2 by omega] at hq)
          | (rw [show max (max d1 d2) d3 = d1 by omega] at hq)
          have HQ := Lib.hid hq
          clear hq HRT
          ((with_reducible refine (HQ.out _).mono ?_); rintro e w8 ⟨rfl, hb8⟩)
          have hB8 := hB7.nx hb8
          clear hB hB7 hb7 hb8 c0 c1 c2 c3 c4 c5
          go_wp2_with fail
          ((with_reducible refine (HAW.out _ hB8).mono ?_); rintro e w9 ⟨rfl, hb9⟩)
          have hB9 := hB8.nx hb9
          go_wp2
          go_ret
          exact ⟨ret_bool (by simp), hB9⟩
end Go.Proofs.Wk
