/- THE LAW RegisterSwaps: the walk. -/
import Derived.Test.YtffmhlaenfecgaaGreatDoorLgR
import Derived.Test.YtffmhlaenfecgaaGreatDoorLgP
namespace Go.Proofs.Wk
open Go.RowKit Mt

/-- Two rows. -/
structure BX2 (w0 : World) (b1 b2 : Nat) (r1 r2 : Array Value) (t1 t2 : TypeId) (w : World) : Prop where
  c1 : w.heap[b1]? = some (.cells r1 t1 (0, 0))
  c2 : w.heap[b2]? = some (.cells r2 t2 (0, 0))
  w : Below w0.heap.size w0 w
theorem BX2.later {w0 : World} {b1 b2 : Nat} {r1 r2 : Array Value} {t1 t2 : TypeId} {w w' : World} (j : BX2 w0 b1 b2 r1 r2 t1 t2 w) (hb : Below w.heap.size w w') : BX2 w0 b1 b2 r1 r2 t1 t2 w' :=
  ⟨by rw [hb.block b1 (Array.getElem?_eq_some_iff.1 j.c1).1]; exact j.c1, by rw [hb.block b2 (Array.getElem?_eq_some_iff.1 j.c2).1]; exact j.c2, j.w.trans (hb.mono j.w.size)⟩
theorem BX2.new (w0 : World) (r1 r2 : Array Value) (t1 t2 : TypeId) : BX2 w0 w0.heap.size (w0.heap.size + 1) r1 r2 t1 t2 ((w0.alloc (.cells r1 t1)).alloc (.cells r2 t2)) := by
  have e : (w0.alloc (.cells r1 t1)).heap.size = w0.heap.size + 1 := by simp
  refine ⟨?_, ?_, ?_⟩
  · exact (heap_alloc_old _ _ (by rw [e]; exact Nat.lt_succ_self _)).trans (heap_alloc_new _ _)
  · have := heap_alloc_new (w0.alloc (.cells r1 t1)) (.cells r2 t2)
    rwa [e] at this
  · exact ((Below.refl _ _).alloc (Nat.le_refl _) _).alloc (by rw [e]; exact Nat.le_succ _) _
set_option maxRecDepth 100000 in
set_option maxHeartbeats 4000000 in
theorem swaps_c {u : Value} (ls : List Rg.Lt) (x y : Rg.En) (w : World) (hg : Good w) (T : SlX w u ls) (hll : ls.length * 64 ≤ 140737488355328) (hnl : ∀ x ∈ ls, x.nm.length ≤ 140737488355328) (hx : x.lot.length ≤ 140737488355328)
    (hy : y.lot.length ≤ 140737488355328) : Calls Tryz.prog 5 #[u, entV x, entV y] w (Ret w (.bool true)) := by
  have HG := Lib.hid hg
  have HA := Lib.hid (fun W hW => awake_c W hW)
  have HL := Lib.hid (fun W S => lots_c (v := u) ls W S hll)
  have HFL := Lib.hid (fun a W (S : SlX W a ls) => FewLots_c ls W S (by omega))
  have H1 := Lib.hid (fun W S => Do_c (v := u) ls x W S hnl hx)
  have H3 := Lib.hid (fun W S => Do_c (v := u) ls y W S hnl hy)
  have H2 := fun h => Lib.hid (fun a W (S : SlX W a (Rg.doL ls x).1) => Do_c (Rg.doL ls x).1 y W S (doL_nm h) hy)
  have H4 := fun h => Lib.hid (fun a W (S : SlX W a (Rg.doL ls y).1) => Do_c (Rg.doL ls y).1 x W S (doL_nm h) hx)
  have hal := doL_len (Rg.doL ls x).1 y
  have H5 := Lib.hid (fun a W (S : SlX W a (Rg.doL (Rg.doL ls x).1 y).1) => lots_c (Rg.doL (Rg.doL ls x).1 y).1 W S (by omega))
  have H7 := Lib.hid (fun a b W (S : SlX W a (Rg.doL (Rg.doL ls x).1 y).1) (T : SlX W b (Rg.doL (Rg.doL ls x).1 y).1) => by have := Same_c (Rg.doL (Rg.doL ls x).1 y).1 (Rg.doL (Rg.doL ls x).1 y).1 W S T (by omega) (by omega); rwa [decide_eq_true rfl] at this)
  have hsw := @swapL ls x y
  have HT := Lib.hid T
  have J := BX2.new w #[.int .i64 x.k, .string ⟨x.lot.toArray⟩, .int .i64 x.n] #[.int .i64 y.k, .string ⟨y.lot.toArray⟩, .int .i64 y.n] 24 24
  obtain ⟨k, lx, n⟩ := x
  obtain ⟨k', ly, n'⟩ := y
  simp only at J hx hy hsw
  generalize Rg.doL (Rg.doL ls ⟨k, lx, n⟩).1 ⟨k', ly, n'⟩ = R2 at *
  generalize Rg.doL (Rg.doL ls ⟨k', ly, n'⟩).1 ⟨k, lx, n⟩ = R4 at *
  generalize Rg.doL ls ⟨k, lx, n⟩ = R1 at *
  generalize Rg.doL ls ⟨k', ly, n'⟩ = R3 at *
  generalize fewL ls = g at *
  obtain ⟨r1, e1⟩ := R1
  obtain ⟨r2, e2⟩ := R2
  obtain ⟨r3, e3⟩ := R3
  obtain ⟨r4, e4⟩ := R4
  simp only at H2 H4 hsw hal
  have hT := T
  obtain ⟨N, hN⟩ : ∃ N, ls.length = N := ⟨_, rfl⟩
  have hu : ∃ a cap, u = .slice a N cap := by
    rcases T with ⟨a, cap, rfl, rfl⟩ | ⟨b, off, cap, rfl, -, -⟩
    · exact ⟨a, cap, by rw [← hN]; rfl⟩
    · exact ⟨_, cap, by rw [← hN]⟩
  obtain ⟨ua, uc, rfl⟩ := hu
  rw [hN] at hsw
  obtain ⟨d0, d1, d2⟩ := cell3 J.c1
  obtain ⟨c0, c1, c2⟩ := cell3 J.c2
  have HJ := Lib.hid J
  clear hg hll hnl hal T J hT hN
  cases g with
  | false =>
    clear H1 H2 H3 H4 H5 H7 hsw
    go_enter Tryz.func5, Tryz.ntmps5
    go_upto_region 1 with fail
    generalize World.alloc (World.alloc _ _) _ = W0 at *
    go_wp2_with fail
    ((with_reducible refine (HL.out _ (HT.out.later HJ.out.w)).mono ?_); rintro e w1 ⟨v1, rfl, s1, b1⟩)
    have J1 := Lib.hid (HJ.out.later b1)
    clear d0 d1 d2 c0 c1 c2
    obtain ⟨d0, d1, d2⟩ := cell3 J1.out.c1
    obtain ⟨c0, c1, c2⟩ := cell3 J1.out.c2
    go_wp2_with fail
    ((with_reducible refine (HFL.out _ _ s1).mono ?_); rintro e w2 ⟨rfl, rfl⟩)
    clear s1 b1
    go_wp2_with fail
    ((with_reducible refine (HA.out _ (HG.out.later J1.out.w)).mono ?_); rintro e w3 ⟨rfl, b3⟩)
    have B3 := Lib.hid (J1.out.later b3).w
    clear b3
    go_wp2
    go_ret
    exact ⟨rfl, B3.out⟩
  | true =>
    by_cases h60 : 60 < lx.length
    · clear H1 H2 H3 H4 H5 H7 hsw
      go_enter Tryz.func5, Tryz.ntmps5
      go_upto_region 1 with fail
      generalize World.alloc (World.alloc _ _) _ = W0 at *
      go_wp2_with fail
      ((with_reducible refine (HL.out _ (HT.out.later HJ.out.w)).mono ?_); rintro e w1 ⟨v1, rfl, s1, b1⟩)
      have J1 := Lib.hid (HJ.out.later b1)
      clear d0 d1 d2 c0 c1 c2
      obtain ⟨d0, d1, d2⟩ := cell3 J1.out.c1
      obtain ⟨c0, c1, c2⟩ := cell3 J1.out.c2
      go_wp2_with fail
      ((with_reducible refine (HFL.out _ _ s1).mono ?_); rintro e w2 ⟨rfl, rfl⟩)
      clear s1 b1
      go_wp2_with fail
      ((with_reducible refine (HA.out _ (HG.out.later J1.out.w)).mono ?_); rintro e w3 ⟨rfl, b3⟩)
      have B3 := Lib.hid (J1.out.later b3).w
      clear b3
      go_wp2
      go_ret
      exact ⟨rfl, B3.out⟩
    · by_cases h61 : 60 < ly.length
      · clear H1 H2 H3 H4 H5 H7 hsw
        go_enter Tryz.func5, Tryz.ntmps5
        go_upto_region 1 with fail
        generalize World.alloc (World.alloc _ _) _ = W0 at *
        go_wp2_with fail
        ((with_reducible refine (HL.out _ (HT.out.later HJ.out.w)).mono ?_); rintro e w1 ⟨v1, rfl, s1, b1⟩)
        have J1 := Lib.hid (HJ.out.later b1)
        clear d0 d1 d2 c0 c1 c2
        obtain ⟨d0, d1, d2⟩ := cell3 J1.out.c1
        obtain ⟨c0, c1, c2⟩ := cell3 J1.out.c2
        go_wp2_with fail
        ((with_reducible refine (HFL.out _ _ s1).mono ?_); rintro e w2 ⟨rfl, rfl⟩)
        clear s1 b1
        go_wp2_with fail
        ((with_reducible refine (HA.out _ (HG.out.later J1.out.w)).mono ?_); rintro e w3 ⟨rfl, b3⟩)
        have B3 := Lib.hid (J1.out.later b3).w
        clear b3
        go_wp2
        go_ret
        exact ⟨rfl, B3.out⟩
      · by_cases h20 : 20 < N
        · clear H1 H2 H3 H4 H5 H7 hsw
          go_enter Tryz.func5, Tryz.ntmps5
          go_upto_region 1 with fail
          generalize World.alloc (World.alloc _ _) _ = W0 at *
          go_wp2_with fail
          ((with_reducible refine (HL.out _ (HT.out.later HJ.out.w)).mono ?_); rintro e w1 ⟨v1, rfl, s1, b1⟩)
          have J1 := Lib.hid (HJ.out.later b1)
          clear d0 d1 d2 c0 c1 c2
          obtain ⟨d0, d1, d2⟩ := cell3 J1.out.c1
          obtain ⟨c0, c1, c2⟩ := cell3 J1.out.c2
          go_wp2_with fail
          ((with_reducible refine (HFL.out _ _ s1).mono ?_); rintro e w2 ⟨rfl, rfl⟩)
          clear s1 b1
          go_wp2_with fail
          ((with_reducible refine (HA.out _ (HG.out.later J1.out.w)).mono ?_); rintro e w3 ⟨rfl, b3⟩)
          have B3 := Lib.hid (J1.out.later b3).w
          clear b3
          go_wp2
          go_ret
          exact ⟨rfl, B3.out⟩
        · by_cases he : lx = ly
          · subst he
            clear H1 H2 H3 H4 H5 H7 hsw
            go_enter Tryz.func5, Tryz.ntmps5
            go_upto_region 1 with fail
            generalize World.alloc (World.alloc _ _) _ = W0 at *
            go_wp2_with fail
            ((with_reducible refine (HL.out _ (HT.out.later HJ.out.w)).mono ?_); rintro e w1 ⟨v1, rfl, s1, b1⟩)
            have J1 := Lib.hid (HJ.out.later b1)
            clear d0 d1 d2 c0 c1 c2
            obtain ⟨d0, d1, d2⟩ := cell3 J1.out.c1
            obtain ⟨c0, c1, c2⟩ := cell3 J1.out.c2
            go_wp2_with fail
            ((with_reducible refine (HFL.out _ _ s1).mono ?_); rintro e w2 ⟨rfl, rfl⟩)
            clear s1 b1
            go_wp2_with fail
            ((with_reducible refine (HA.out _ (HG.out.later J1.out.w)).mono ?_); rintro e w3 ⟨rfl, b3⟩)
            have B3 := Lib.hid (J1.out.later b3).w
            clear b3
            go_wp2
            go_ret
            exact ⟨rfl, B3.out⟩
          · have hs := hsw he (by omega)
            have heb : (lx == ly) = false := by simpa using he
            clear he
            clear hsw
            by_cases h1 : e1 = 0
            · subst h1
              obtain ⟨rfl, hs2⟩ := hs rfl
              replace H2 := H2 rfl
              clear hs
              by_cases h3 : e2 = 0
              · subst h3
                obtain ⟨rfl, rfl⟩ := hs2 rfl
                replace H4 := H4 rfl
                clear hs2
                go_enter Tryz.func5, Tryz.ntmps5
                go_upto_region 1 with fail
                generalize World.alloc (World.alloc _ _) _ = W0 at *
                go_wp2_with fail
                ((with_reducible refine (HL.out _ (HT.out.later HJ.out.w)).mono ?_); rintro e w1 ⟨v1, rfl, s1, b⟩)
                have J := Lib.hid (HJ.out.later b)
                clear b d0 d1 d2 c0 c1 c2
                obtain ⟨d0, d1, d2⟩ := cell3 J.out.c1
                obtain ⟨c0, c1, c2⟩ := cell3 J.out.c2
                go_wp2_with fail
                ((with_reducible refine (HFL.out _ _ s1).mono ?_); rintro e w2 ⟨rfl, rfl⟩)
                clear s1
                go_wp2_with fail
                ((with_reducible refine (H1.out _ (HT.out.later J.out.w)).mono ?_); rintro e w3 ⟨v3, rfl, s3, b⟩)
                have X := Lib.hid s3
                clear s3
                have J := Lib.hid (J.out.later b)
                clear b d0 d1 d2 c0 c1 c2
                obtain ⟨d0, d1, d2⟩ := cell3 J.out.c1
                obtain ⟨c0, c1, c2⟩ := cell3 J.out.c2
                go_wp2_with fail
                ((with_reducible refine (H2.out _ _ X.out).mono ?_); rintro e w4 ⟨v4, rfl, s4, b⟩)
                have Y := Lib.hid s4
                clear s4 X
                have J := Lib.hid (J.out.later b)
                clear b d0 d1 d2 c0 c1 c2
                obtain ⟨d0, d1, d2⟩ := cell3 J.out.c1
                obtain ⟨c0, c1, c2⟩ := cell3 J.out.c2
                go_wp2_with fail
                ((with_reducible refine (H3.out _ (HT.out.later J.out.w)).mono ?_); rintro e w5 ⟨v5, rfl, s5, b⟩)
                have Z := Lib.hid s5
                clear s5
                have Y := Lib.hid (Y.out.later b)
                have J := Lib.hid (J.out.later b)
                clear b d0 d1 d2 c0 c1 c2
                obtain ⟨d0, d1, d2⟩ := cell3 J.out.c1
                obtain ⟨c0, c1, c2⟩ := cell3 J.out.c2
                go_wp2_with fail
                ((with_reducible refine (H4.out _ _ Z.out).mono ?_); rintro e w6 ⟨v6, rfl, s6, b⟩)
                have Z := Lib.hid s6
                clear s6
                have Y := Lib.hid (Y.out.later b)
                have J := Lib.hid (J.out.later b)
                clear b d0 d1 d2 c0 c1 c2
                obtain ⟨d0, d1, d2⟩ := cell3 J.out.c1
                obtain ⟨c0, c1, c2⟩ := cell3 J.out.c2
                go_wp2_with fail
                ((with_reducible refine (H5.out _ _ Y.out).mono ?_); rintro e w7 ⟨v7, rfl, s7, b⟩)
                have Y := Lib.hid s7
                clear s7
                have Z := Lib.hid (Z.out.later b)
                have J := Lib.hid (J.out.later b)
                clear b d0 d1 d2 c0 c1 c2
                obtain ⟨d0, d1, d2⟩ := cell3 J.out.c1
                obtain ⟨c0, c1, c2⟩ := cell3 J.out.c2
                go_wp2_with fail
                ((with_reducible refine (H5.out _ _ Z.out).mono ?_); rintro e w8 ⟨v8, rfl, s8, b⟩)
                have Z := Lib.hid s8
                clear s8
                have Y := Lib.hid (Y.out.later b)
                have J := Lib.hid (J.out.later b)
                clear b d0 d1 d2 c0 c1 c2
                obtain ⟨d0, d1, d2⟩ := cell3 J.out.c1
                obtain ⟨c0, c1, c2⟩ := cell3 J.out.c2
                go_wp2_with fail
                ((with_reducible refine (H7.out _ _ _ Y.out Z.out).mono ?_); rintro e w8 ⟨rfl, b⟩)
                have J := Lib.hid (J.out.later b)
                clear b d0 d1 d2 c0 c1 c2
                obtain ⟨d0, d1, d2⟩ := cell3 J.out.c1
                obtain ⟨c0, c1, c2⟩ := cell3 J.out.c2
                go_wp2_with fail
                ((with_reducible refine (HA.out _ (HG.out.later J.out.w)).mono ?_); rintro e w9 ⟨rfl, b⟩)
                have B9 := Lib.hid (J.out.later b).w
                clear b
                go_wp2
                go_ret
                exact ⟨rfl, B9.out⟩
              · clear hs2 H4 H5 H7
                go_enter Tryz.func5, Tryz.ntmps5
                go_upto_region 1 with fail
                generalize World.alloc (World.alloc _ _) _ = W0 at *
                go_wp2_with fail
                ((with_reducible refine (HL.out _ (HT.out.later HJ.out.w)).mono ?_); rintro e w1 ⟨v1, rfl, s1, b⟩)
                have J := Lib.hid (HJ.out.later b)
                clear b d0 d1 d2 c0 c1 c2
                obtain ⟨d0, d1, d2⟩ := cell3 J.out.c1
                obtain ⟨c0, c1, c2⟩ := cell3 J.out.c2
                go_wp2_with fail
                ((with_reducible refine (HFL.out _ _ s1).mono ?_); rintro e w2 ⟨rfl, rfl⟩)
                clear s1
                go_wp2_with fail
                ((with_reducible refine (H1.out _ (HT.out.later J.out.w)).mono ?_); rintro e w3 ⟨v3, rfl, s3, b⟩)
                have X := Lib.hid s3
                clear s3
                have J := Lib.hid (J.out.later b)
                clear b d0 d1 d2 c0 c1 c2
                obtain ⟨d0, d1, d2⟩ := cell3 J.out.c1
                obtain ⟨c0, c1, c2⟩ := cell3 J.out.c2
                go_wp2_with fail
                ((with_reducible refine (H2.out _ _ X.out).mono ?_); rintro e w4 ⟨v4, rfl, s4, b⟩)
                clear s4 X
                have J := Lib.hid (J.out.later b)
                clear b d0 d1 d2 c0 c1 c2
                obtain ⟨d0, d1, d2⟩ := cell3 J.out.c1
                obtain ⟨c0, c1, c2⟩ := cell3 J.out.c2
                go_wp2_with fail
                ((with_reducible refine (H3.out _ (HT.out.later J.out.w)).mono ?_); rintro e w5 ⟨v5, rfl, s5, b⟩)
                clear s5
                have J := Lib.hid (J.out.later b)
                clear b d0 d1 d2 c0 c1 c2
                obtain ⟨d0, d1, d2⟩ := cell3 J.out.c1
                obtain ⟨c0, c1, c2⟩ := cell3 J.out.c2
                go_wp2_with fail
                ((with_reducible refine (HA.out _ (HG.out.later J.out.w)).mono ?_); rintro e w9 ⟨rfl, b⟩)
                have B9 := Lib.hid (J.out.later b).w
                clear b
                go_wp2
                go_ret
                exact ⟨rfl, B9.out⟩
            · clear H2 H3 H4 H5 H7 hs
              go_enter Tryz.func5, Tryz.ntmps5
              go_upto_region 1 with fail
              generalize World.alloc (World.alloc _ _) _ = W0 at *
              go_wp2_with fail
              ((with_reducible refine (HL.out _ (HT.out.later HJ.out.w)).mono ?_); rintro e w1 ⟨v1, rfl, s1, b⟩)
              have J := Lib.hid (HJ.out.later b)
              clear b d0 d1 d2 c0 c1 c2
              obtain ⟨d0, d1, d2⟩ := cell3 J.out.c1
              obtain ⟨c0, c1, c2⟩ := cell3 J.out.c2
              go_wp2_with fail
              ((with_reducible refine (HFL.out _ _ s1).mono ?_); rintro e w2 ⟨rfl, rfl⟩)
              clear s1
              go_wp2_with fail
              ((with_reducible refine (H1.out _ (HT.out.later J.out.w)).mono ?_); rintro e w3 ⟨v3, rfl, s3, b⟩)
              have X := Lib.hid s3
              clear s3
              have J := Lib.hid (J.out.later b)
              clear b d0 d1 d2 c0 c1 c2
              obtain ⟨d0, d1, d2⟩ := cell3 J.out.c1
              obtain ⟨c0, c1, c2⟩ := cell3 J.out.c2
              go_wp2_with fail
              ((with_reducible refine (HA.out _ (HG.out.later J.out.w)).mono ?_); rintro e w9 ⟨rfl, b⟩)
              have B9 := Lib.hid (J.out.later b).w
              clear b
              go_wp2
              go_ret
              exact ⟨rfl, B9.out⟩
end Go.Proofs.Wk
