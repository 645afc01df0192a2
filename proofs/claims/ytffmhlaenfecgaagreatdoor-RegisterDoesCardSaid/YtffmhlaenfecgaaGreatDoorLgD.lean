/- THE LAW RegisterDoes: the walk. -/
import Derived.Test.YtffmhlaenfecgaaGreatDoorLgR
import Derived.Test.YtffmhlaenfecgaaGreatDoorLgP
namespace Go.Proofs.Wk
open Go.RowKit Mt

set_option maxRecDepth 100000 in
set_option maxHeartbeats 20000000 in
theorem does_c {u : Value} (ls : List Rg.Lt) (x : Rg.En) (w : World) (hg : Good w) (T : SlX w u ls) (hll : ls.length * 64 ≤ 140737488355328) (hnl : ∀ x ∈ ls, x.nm.length ≤ 140737488355328) (hx : x.lot.length ≤ 140737488355328) :
    Calls Tryz.prog 3 #[u, entV x] w (Ret w (.bool true)) := by
  have HG := Lib.hid hg
  have HA := Lib.hid (fun W hW => awake_c W hW)
  have HL := Lib.hid (fun W S => lots_c (v := u) ls W S hll)
  have HFL := Lib.hid (fun a W (S : SlX W a ls) => FewLots_c ls W S (by omega))
  have H1 := Lib.hid (fun W S => Do_c (v := u) ls x W S hnl hx)
  have H2 := Lib.hid (fun a W (S : SlX W a ls) => rDo_c ls x W S hnl hx)
  have H3 := Lib.hid (fun W S => rgCheck_c (v := u) ls W S hnl)
  have H4 := Lib.hid (fun a W (S : SlX W a ls) => rCheck_g ls W S hnl)
  have H5 := Lib.hid (fun W => right_g x W hx)
  have H6 := Lib.hid (fun W => rRight_g x W hx)
  have hal := doL_len ls x
  have H7 := Lib.hid (fun a W (S : SlX W a (Rg.doL ls x).1) => lots_c (Rg.doL ls x).1 W S (by omega))
  have H8 := Lib.hid (fun a b W (S : SlX W a (Rg.doL ls x).1) (T : SlX W b (Rg.doL ls x).1) => by have := Same_c (Rg.doL ls x).1 (Rg.doL ls x).1 W S T (by omega) (by omega); rwa [decide_eq_true rfl] at this)
  have HT := Lib.hid T
  have J := BX.new w #[.int .i64 x.k, .string ⟨x.lot.toArray⟩, .int .i64 x.n] 24
  obtain ⟨k, lot, n⟩ := x
  simp only at J hx
  generalize fewL ls = g at *
  generalize Rg.doL ls ⟨k, lot, n⟩ = R at *
  generalize Rg.chkE ls = c1 at *
  generalize Rg.rightE ⟨k, lot, n⟩ = c2 at *
  obtain ⟨rl, rc⟩ := R
  obtain ⟨d0, d1, d2⟩ := cell3 J.c
  have HJ := Lib.hid J
  clear hg hll hnl hal T J
  cases g with
  | false =>
    clear H1 H2 H3 H4 H5 H6 H7 H8
    go_enter Tryz.func3, Tryz.ntmps3
    go_upto_region 1 with fail
    generalize World.alloc _ _ = W0 at *
    go_wp2_with fail
    ((with_reducible refine (HL.out _ (HT.out.later HJ.out.w)).mono ?_); rintro e w1 ⟨v1, rfl, s1, b1⟩)
    go_wp2_with fail
    ((with_reducible refine (HFL.out _ _ s1).mono ?_); rintro e w2 ⟨rfl, rfl⟩)
    have B1 := Lib.hid (HJ.out.w.trans (b1.mono HJ.out.w.size))
    clear s1 b1
    go_wp2_with fail
    ((with_reducible refine (HA.out _ (HG.out.later B1.out)).mono ?_); rintro e w3 ⟨rfl, b3⟩)
    have B3 := Lib.hid (B1.out.trans (b3.mono B1.out.size))
    clear b3
    go_wp2
    go_ret
    exact ⟨rfl, B3.out⟩
  | true =>
    by_cases h60 : 60 < lot.length
    · clear H1 H2 H3 H4 H5 H6 H7 H8
      go_enter Tryz.func3, Tryz.ntmps3
      go_upto_region 1 with fail
      generalize World.alloc _ _ = W0 at *
      go_wp2_with fail
      ((with_reducible refine (HL.out _ (HT.out.later HJ.out.w)).mono ?_); rintro e w1 ⟨v1, rfl, s1, b1⟩)
      have J1 := Lib.hid (HJ.out.later b1)
      obtain ⟨f0, f1, f2⟩ := cell3 J1.out.c
      go_wp2_with fail
      ((with_reducible refine (HFL.out _ _ s1).mono ?_); rintro e w2 ⟨rfl, rfl⟩)
      clear s1 b1
      go_wp2_with fail
      ((with_reducible refine (HA.out _ (HG.out.later J1.out.w)).mono ?_); rintro e w3 ⟨rfl, b3⟩)
      have B3 := Lib.hid (J1.out.later b3).w
      clear b3
      go_wp2
      go_ret
      exact ⟨rfl, B3.out⟩
    · go_enter Tryz.func3, Tryz.ntmps3
      go_upto_region 1 with fail
      generalize World.alloc _ _ = W0 at *
      go_wp2_with fail
      ((with_reducible refine (HL.out _ (HT.out.later HJ.out.w)).mono ?_); rintro e w1 ⟨v1, rfl, s1, b1⟩)
      have J1 := Lib.hid (HJ.out.later b1)
      obtain ⟨f0, f1, f2⟩ := cell3 J1.out.c
      clear d0 d1 d2
      go_wp2_with fail
      ((with_reducible refine (HFL.out _ _ s1).mono ?_); rintro e w2 ⟨rfl, rfl⟩)
      clear s1 b1
      go_wp2_with fail
      ((with_reducible refine (H1.out _ (HT.out.later J1.out.w)).mono ?_); rintro e w3 ⟨v3, rfl, s3, b3⟩)
      have J3 := Lib.hid (J1.out.later b3)
      have X3 := Lib.hid s3
      clear f0 f1 f2
      obtain ⟨f0, f1, f2⟩ := cell3 J3.out.c
      have HLT : w.heap.size < w3.heap.size := (Array.getElem?_eq_some_iff.1 J3.out.c).1
      clear s3 b3
      have J := J3
      have X := X3
      clear J1 J3 X3 HLT
      go_upto_region 4 with fail
      go_cut [7, 8] (fun s7 s8 wx => s8 = .int .i64 rc ∧ Hid (SlX wx s7 rl) ∧ Hid (SlX wx v3 rl) ∧ Hid (BX w w.heap.size #[.int .i64 k, .string ⟨lot.toArray⟩, .int .i64 n] 24 wx))
      case first =>
        go_region_with (first
          | (go_at_call 9; (with_reducible refine (HL.out _ (by first | exact HT.out.later J.out.w | exact HT.out.later J.out.w.drew)).mono ?_); rintro e wn ⟨v4, rfl, s, b⟩; replace X := Lib.hid (X.out.later ⟨b.os, b.tape, b.output, b.size, b.block⟩); replace J := Lib.hid (J.out.later ⟨b.os, b.tape, b.output, b.size, b.block⟩); have S4 := Lib.hid s; clear s b; clear f0 f1 f2; obtain ⟨f0, f1, f2⟩ := cell3 J.out.c)
          | (go_at_call 12; (with_reducible refine (H2.out _ _ (by first | exact S4.out | exact (S4.out).later (Below.refl _ _).drew)).mono ?_); rintro e wn ⟨v5, rfl, s, b⟩; replace X := Lib.hid (X.out.later ⟨b.os, b.tape, b.output, b.size, b.block⟩); replace J := Lib.hid (J.out.later ⟨b.os, b.tape, b.output, b.size, b.block⟩); have S5 := Lib.hid s; clear s b; clear f0 f1 f2; obtain ⟨f0, f1, f2⟩ := cell3 J.out.c)
          | fail)
        all_goals (go_wp2_with fail; go_meet)
        all_goals exact ⟨rfl, S5, X, J⟩
      case rest =>
        obtain ⟨rfl, Y, X, J⟩ := hcut
        clear f0 f1 f2
        obtain ⟨f0, f1, f2⟩ := cell3 J.out.c
        go_upto_region 5 with fail
        go_region_with (first
          | (go_at_call 10; (with_reducible refine (HA.out _ (by first | exact HG.out.later J.out.w | exact HG.out.later J.out.w.drew)).mono ?_); rintro e wn ⟨rfl, b⟩; replace Y := Lib.hid (Y.out.later ⟨b.os, b.tape, b.output, b.size, b.block⟩); replace X := Lib.hid (X.out.later ⟨b.os, b.tape, b.output, b.size, b.block⟩); replace J := Lib.hid (J.out.later ⟨b.os, b.tape, b.output, b.size, b.block⟩); clear b; clear f0 f1 f2; obtain ⟨f0, f1, f2⟩ := cell3 J.out.c)
          | (go_at_call 13; (with_reducible refine (H3.out _ (by first | exact HT.out.later J.out.w | exact HT.out.later J.out.w.drew)).mono ?_); rintro e wn ⟨rfl, b⟩; replace Y := Lib.hid (Y.out.later ⟨b.os, b.tape, b.output, b.size, b.block⟩); replace X := Lib.hid (X.out.later ⟨b.os, b.tape, b.output, b.size, b.block⟩); replace J := Lib.hid (J.out.later ⟨b.os, b.tape, b.output, b.size, b.block⟩); clear b; clear f0 f1 f2; obtain ⟨f0, f1, f2⟩ := cell3 J.out.c)
          | (go_at_call 9; (with_reducible refine (HL.out _ (by first | exact HT.out.later J.out.w | exact HT.out.later J.out.w.drew)).mono ?_); rintro e wn ⟨v8, rfl, s, b⟩; replace Y := Lib.hid (Y.out.later ⟨b.os, b.tape, b.output, b.size, b.block⟩); replace X := Lib.hid (X.out.later ⟨b.os, b.tape, b.output, b.size, b.block⟩); replace J := Lib.hid (J.out.later ⟨b.os, b.tape, b.output, b.size, b.block⟩); have S8 := Lib.hid s; clear s b; clear f0 f1 f2; obtain ⟨f0, f1, f2⟩ := cell3 J.out.c)
          | (go_at_call 14; (with_reducible refine (H4.out _ _ (by first | exact S8.out | exact (S8.out).later (Below.refl _ _).drew)).mono ?_); rintro e wn ⟨rfl, b⟩; replace Y := Lib.hid (Y.out.later ⟨b.os, b.tape, b.output, b.size, b.block⟩); replace X := Lib.hid (X.out.later ⟨b.os, b.tape, b.output, b.size, b.block⟩); replace J := Lib.hid (J.out.later ⟨b.os, b.tape, b.output, b.size, b.block⟩); clear b; clear f0 f1 f2; obtain ⟨f0, f1, f2⟩ := cell3 J.out.c)
          | (go_at_call 15; (with_reducible refine (H5.out _).mono ?_); rintro e wn ⟨rfl, b⟩; replace Y := Lib.hid (Y.out.later ⟨b.os, b.tape, b.output, b.size, b.block⟩); replace X := Lib.hid (X.out.later ⟨b.os, b.tape, b.output, b.size, b.block⟩); replace J := Lib.hid (J.out.later ⟨b.os, b.tape, b.output, b.size, b.block⟩); clear b; clear f0 f1 f2; obtain ⟨f0, f1, f2⟩ := cell3 J.out.c)
          | (go_at_call 16; (with_reducible refine (H6.out _).mono ?_); rintro e wn ⟨rfl, b⟩; replace Y := Lib.hid (Y.out.later ⟨b.os, b.tape, b.output, b.size, b.block⟩); replace X := Lib.hid (X.out.later ⟨b.os, b.tape, b.output, b.size, b.block⟩); replace J := Lib.hid (J.out.later ⟨b.os, b.tape, b.output, b.size, b.block⟩); clear b; clear f0 f1 f2; obtain ⟨f0, f1, f2⟩ := cell3 J.out.c)
          | (go_at_call 9; (with_reducible refine (H7.out _ _ (by first | exact X.out | exact (X.out).later (Below.refl _ _).drew)).mono ?_); rintro e wn ⟨v12, rfl, s, b⟩; replace Y := Lib.hid (Y.out.later ⟨b.os, b.tape, b.output, b.size, b.block⟩); replace J := Lib.hid (J.out.later ⟨b.os, b.tape, b.output, b.size, b.block⟩); have S12 := Lib.hid s; clear s b; clear f0 f1 f2; obtain ⟨f0, f1, f2⟩ := cell3 J.out.c)
          | (go_at_call 17; (with_reducible refine (H8.out _ _ _ (by first | exact S12.out | exact (S12.out).later (Below.refl _ _).drew) (by first | exact Y.out | exact (Y.out).later (Below.refl _ _).drew)).mono ?_); rintro e wn ⟨rfl, b⟩; replace J := Lib.hid (J.out.later ⟨b.os, b.tape, b.output, b.size, b.block⟩); clear b; clear f0 f1 f2; obtain ⟨f0, f1, f2⟩ := cell3 J.out.c)
          | fail)
        all_goals
          go_wp2
          go_ret
          first | exact ⟨rfl, J.out.w⟩ | exact ⟨rfl, J.out.w.drew⟩
end Go.Proofs.Wk
