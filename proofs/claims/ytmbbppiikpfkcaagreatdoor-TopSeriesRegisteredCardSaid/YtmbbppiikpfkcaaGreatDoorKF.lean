/- REGISTERS OF LOTS: done: a lot that is not there. -/
import Derived.Test.YtmbbppiikpfkcaaGreatDoorVF
import Derived.Test.YtmbbppiikpfkcaaGreatDoorKD
namespace Go.Proofs.Wk
open Go.RowKit Mt

theorem CnX.ne {e : TypeId} {w : World} {base vb : Nat} {v : Value} {ls : List Rg.Lt} (h : CnX e w base v ls) (hvb : vb < base ∨ w.heap.size ≤ vb) : ∀ g n cap, ls ≠ [] → v = .slice (some ⟨g, 0, none⟩) n cap → vb ≠ g := by
  rintro g n cap h0 rfl
  rcases h with ⟨e0, -⟩ | ⟨h1, ⟨h2, -⟩ | ⟨g', cap', cur, e1, e2, e3, -⟩⟩
  · exact absurd e0 h0
  · cases h2
  · cases e1
    have := (Array.getElem?_eq_some_iff.1 e3).1
    omega
set_option maxRecDepth 100000 in
set_option maxHeartbeats 1000000 in
theorem done_none {v : Value} (ls : List Rg.Lt) (k : Int) (lot : Txt) (n : Int) (w : World) (S : SlX w v ls) (hl : Rg.chkE ls = 0) (hk : k ≠ 0) (hh : Rg.has ls lot = false) :
    Calls Tryz.prog 22 #[v, entV ⟨k, lot, n⟩] w (DoneP w ([], 6)) := by
  obtain ⟨hlen, -, hs⟩ := (Rg.chkE_iff ls).1 hl
  have HF := Lib.hid (fun W S => find_c ls lot W (v := v) S (by omega) hs)
  have HS := Lib.hid S
  rw [hh] at HF
  generalize Rg.pos ls lot = p at *
  have J := BX.new w #[.int .i64 k, .string ⟨lot.toArray⟩, .int .i64 n] 28
  have y0 : (k == 0) = false := beq_eq_false_iff_ne.2 hk
  clear hs hl hh S hk
  go_enter Tryz.func22, Tryz.ntmps22
  go_wp2_with fail
  ((with_reducible refine (HF.out _ (HS.out.later J.w)).mono ?_); rintro e w1 ⟨rfl, hb1⟩)
  have J1 := J.later hb1
  have HJ1 := Lib.hid J1
  obtain ⟨d0, d1, d2⟩ := cell3 J1.c
  clear J J1 hb1
  go_wp2
  go_ret2
  exact ⟨_, rfl, .inl ⟨none, 0, rfl, rfl⟩, HJ1.out.w⟩
set_option maxRecDepth 100000 in
set_option maxHeartbeats 2000000 in
theorem done_open {v : Value} (ls : List Rg.Lt) (lot : Txt) (n : Int) (w : World) (S : SlX w v ls) (hl : Rg.chkE ls = 0) :
    Calls Tryz.prog 22 #[v, entV ⟨0, lot, n⟩] w (DoneP w (Rg.doneL ls ⟨0, lot, n⟩)) := by
  obtain ⟨hlen, -, hs⟩ := (Rg.chkE_iff ls).1 hl
  have hD1 := doneL_t (ls := ls) (x := ⟨0, lot, n⟩) rfl
  have hD2 := doneL_f (ls := ls) (x := ⟨0, lot, n⟩) rfl
  have hD3 := doneL_o (ls := ls) (x := ⟨0, lot, n⟩) rfl
  have hple := Rg.pos_le ls lot
  have HF := Lib.hid (fun W S => find_c ls lot W (v := v) S (by omega) hs)
  have HCl := Lib.hid (fun W S => clone_c ls W (v := v) S (by omega))
  have HIn := Lib.hid (fun (v' : Value) (W : World) base hb hv vb T hvb hne => insert_c (v := v') ls ⟨lot, n, 0, 0, 0, 0, 0⟩ (Rg.pos ls lot) hple W base hb hv vb T hvb hne (by omega))
  have HS := Lib.hid S
  have J := BX.new w #[.int .i64 0, .string ⟨lot.toArray⟩, .int .i64 n] 28
  simp only at hD1 hD2 hD3
  have hlv : ∃ a cap, v = .slice a ls.length cap := by
    rcases S with ⟨a, cap, rfl, rfl⟩ | ⟨b, off, cap, rfl, -⟩
    · exact ⟨a, cap, rfl⟩
    · exact ⟨_, cap, rfl⟩
  obtain ⟨va, vc, rfl⟩ := hlv
  generalize Rg.doneL ls ⟨0, lot, n⟩ = D at *
  generalize Rg.has ls lot = H at *
  have hD3 : H = false → ls.length ≠ 256 → D = (ls.take (Rg.pos ls lot) ++ (⟨lot, n, 0, 0, 0, 0, 0⟩ : Rg.Lt) :: ls.drop (Rg.pos ls lot), 0) := hD3
  generalize Rg.pos ls lot = p at *
  clear hs hl S
  cases H with
  | true =>
    obtain rfl := hD1 rfl
    clear hD1 hD2 hD3
    go_enter Tryz.func22, Tryz.ntmps22
    go_wp2_with fail
    ((with_reducible refine (HF.out _ (HS.out.later J.w)).mono ?_); rintro e w1 ⟨rfl, hb1⟩)
    have J1 := J.later hb1
    have HJ1 := Lib.hid J1
    obtain ⟨d0, d1, d2⟩ := cell3 J1.c
    clear J J1 hb1
    go_wp2
    go_ret2
    exact ⟨_, rfl, .inl ⟨none, 0, rfl, rfl⟩, HJ1.out.w⟩
  | false =>
    have hD2 := hD2 rfl
    have hD3 := hD3 rfl
    by_cases h256 : ls.length = 256
    · obtain rfl := hD2 h256
      have y1 : ((ls.length : Int) == 256) = true := by rw [h256]; rfl
      clear hD1 hD2 hD3 h256
      go_enter Tryz.func22, Tryz.ntmps22
      go_wp2_with fail
      ((with_reducible refine (HF.out _ (HS.out.later J.w)).mono ?_); rintro e w1 ⟨rfl, hb1⟩)
      have J1 := J.later hb1
      have HJ1 := Lib.hid J1
      obtain ⟨d0, d1, d2⟩ := cell3 J1.c
      clear J J1 hb1
      go_wp2
      go_ret2
      exact ⟨_, rfl, .inl ⟨none, 0, rfl, rfl⟩, HJ1.out.w⟩
    · obtain rfl := hD3 h256
      have y1 : ((ls.length : Int) == 256) = false := beq_eq_false_iff_ne.2 (by omega)
      have ROW : ∀ W : World, (W.alloc (.cells #[.string ⟨lot.toArray⟩, .int .i64 n, .int .i64 0, .int .i64 0, .int .i64 0, .int .i64 0, .int .i64 0] 46)).heap[W.heap.size]? = some (.cells (lotC ⟨lot, n, 0, 0, 0, 0, 0⟩).toArray 46 (0, 0)) := fun W => heap_alloc_new W _
      have HRW := Lib.hid ROW
      clear hD1 hD2 hD3 h256 ROW
      go_enter Tryz.func22, Tryz.ntmps22
      go_wp2_with fail
      ((with_reducible refine (HF.out _ (HS.out.later J.w)).mono ?_); rintro e w1 ⟨rfl, hb1⟩)
      have J1 := J.later hb1
      have HJ1 := Lib.hid J1
      obtain ⟨d0, d1, d2⟩ := cell3 J1.c
      have HLT := Lib.hid (show w.heap.size < w1.heap.size from (Array.getElem?_eq_some_iff.1 J1.c).1)
      clear J J1 hb1
      go_wp2_with fail
      go_region_with (first
        | (go_at_call 48; (with_reducible refine (HCl.out _ ?_).mono ?_); (first | exact HS.out.later HJ1.out.w | exact HS.out.later HJ1.out.w.drew | exact HS.out.later (HJ1.out.w.alloc HJ1.out.w.size _) | exact HS.out.later (HJ1.out.w.alloc HJ1.out.w.size _).drew); rintro e w2 ⟨v2, rfl, hC, hb2⟩; have hbx : w2.heap[w.heap.size]? = some (.cells #[.int .i64 0, .string ⟨lot.toArray⟩, .int .i64 n] 28 (0, 0)) := (by first | exact (hb2.block _ HLT.out).trans HJ1.out.c | exact (hb2.block _ (Nat.lt_trans HLT.out (alloc_lt w1 _))).trans ((heap_alloc_old w1 _ HLT.out).trans HJ1.out.c)); obtain ⟨s0, s1, s2⟩ := cell3 hbx)
        | (go_at_call 47; (have KA := HIn.out v2 (w2.alloc (.cells #[.string ⟨lot.toArray⟩, .int .i64 n, .int .i64 0, .int .i64 0, .int .i64 0, .int .i64 0, .int .i64 0] 46)) _ (Nat.le_trans hb2.size (Nat.le_of_lt (alloc_lt _ _))) (hC.later ((Below.refl _ _).alloc (Nat.le_refl _) _)) _ _ (HRW.out w2) (hC.ne (.inr (Nat.le_refl _)))); (with_reducible refine KA.mono ?_); rintro e w3 ⟨v3, rfl, hO, hb3⟩; have a1 : Below w.heap.size w w2 := HJ1.out.w.trans ⟨hb2.os, hb2.tape, hb2.output, hb2.size, fun k hk => hb2.block k (Nat.lt_of_lt_of_le hk HJ1.out.w.size)⟩; have a2 : Below w.heap.size w w3 := (a1.alloc a1.size (.cells #[.string ⟨lot.toArray⟩, .int .i64 n, .int .i64 0, .int .i64 0, .int .i64 0, .int .i64 0, .int .i64 0] 46)).trans ⟨hb3.os, hb3.tape, hb3.output, hb3.size, fun k hk => hb3.block k (Nat.lt_of_lt_of_le hk HJ1.out.w.size)⟩)
        | (go_at_call 47; (have KB := HIn.out v2 w2 _ hb2.size hC w1.heap.size 46 ((hb2.block _ (alloc_lt w1 _)).trans (HRW.out w1)) (hC.ne (.inl (alloc_lt w1 _)))); (first | with_reducible refine KB.mono ?_ | refine KB.mono ?_); rintro e w3 ⟨v3, rfl, hO, hb3⟩; have a1 : Below w.heap.size w w2 := (HJ1.out.w.alloc HJ1.out.w.size (.cells #[.string ⟨lot.toArray⟩, .int .i64 n, .int .i64 0, .int .i64 0, .int .i64 0, .int .i64 0, .int .i64 0] 46)).trans ⟨hb2.os, hb2.tape, hb2.output, hb2.size, fun k hk => hb2.block k (Nat.lt_of_lt_of_le hk (Nat.le_trans HJ1.out.w.size (Nat.le_of_lt (alloc_lt w1 _))))⟩; have a2 : Below w.heap.size w w3 := a1.trans ⟨hb3.os, hb3.tape, hb3.output, hb3.size, fun k hk => hb3.block k (Nat.lt_of_lt_of_le hk (Nat.le_trans HJ1.out.w.size (Nat.le_of_lt (alloc_lt w1 _))))⟩)
        | fail)
      all_goals
        have hO := Lib.hid hO.sl
        have a2 := Lib.hid a2
        clear hC hb2 hb3 a1
        go_wp2
        go_ret2
        exact ⟨_, rfl, hO.out, a2.out⟩
end Go.Proofs.Wk
/- REGISTERS OF LOTS: done at any entry; Do. -/
namespace Go.Proofs.Wk
open Go.RowKit Mt

theorem done_c {v : Value} (ls : List Rg.Lt) (x : Rg.En) (w : World) (S : SlX w v ls) (hl : Rg.chkE ls = 0) (hx : Rg.rightE x = 0) : Calls Tryz.prog 22 #[v, entV x] w (DoneP w (Rg.doneL ls x)) := by
  obtain ⟨⟨h0, h6⟩, -, hn5, hn⟩ := (Rg.rightE_iff x).1 hx
  obtain ⟨k, lot, n⟩ := x
  simp only at h0 h6 hn5 hn
  by_cases k0 : k = 0
  · subst k0; exact done_open ls lot n w S hl
  cases hh : Rg.has ls lot with
  | false =>
    rw [doneL_n (x := ⟨k, lot, n⟩) k0 hh]
    exact done_none ls k lot n w S hl k0 hh
  | true =>
    have hn' : 0 ≤ n ∧ n ≤ 1048576 := by omega
    have : k = 1 ∨ k = 2 ∨ k = 3 ∨ k = 4 ∨ k = 5 ∨ k = 6 := by omega
    rcases this with rfl | rfl | rfl | rfl | rfl | rfl
    · exact done_1 ls lot n w S hl hn' hh
    · exact done_2 ls lot n w S hl hn' hh
    · exact done_3 ls lot n w S hl hn' hh
    · exact done_4 ls lot n w S hl hn' hh
    · exact done_5 ls lot n w S hl hn' hh
    · exact done_6 ls lot n w S hl hn' hh
set_option maxRecDepth 100000 in
set_option maxHeartbeats 1000000 in
theorem Do_c {v : Value} (ls : List Rg.Lt) (x : Rg.En) (w : World) (S : SlX w v ls) (hn : ∀ x ∈ ls, x.nm.length ≤ 140737488355328) (hl : x.lot.length ≤ 140737488355328) : Calls Tryz.prog 13 #[v, entV x] w (DoneP w (Rg.doL ls x)) := by
  have HC := Lib.hid (fun W S => rgCheck_c (v := v) ls W S hn)
  have HR := Lib.hid (fun W => right_g x W hl)
  have HD := Lib.hid (fun W S hl hx => done_c (v := v) ls x W S hl hx)
  have HS := Lib.hid S
  have hD : Rg.doL ls x = if Rg.chkE ls ≠ 0 then ([], Rg.chkE ls) else if Rg.rightE x ≠ 0 then ([], Rg.rightE x) else Rg.doneL ls x := rfl
  have J := BX.new w #[.int .i64 x.k, .string ⟨x.lot.toArray⟩, .int .i64 x.n] 28
  obtain ⟨k, lot, n⟩ := x
  generalize Rg.chkE ls = c at *
  generalize Rg.rightE ⟨k, lot, n⟩ = r at *
  generalize Rg.doneL ls ⟨k, lot, n⟩ = D0 at *
  generalize Rg.doL ls ⟨k, lot, n⟩ = D at *
  simp only at J
  have HE := Lib.hid hD
  clear hD S hn hl
  by_cases hc : c = 0
  rotate_left
  · obtain rfl : D = ([], c) := by rw [HE.out, if_pos hc]
    have y1 : (c != 0) = true := bne_iff_ne.2 hc
    clear HE HD HR hc
    go_enter Tryz.func13, Tryz.ntmps13
    go_wp2_with fail
    ((with_reducible refine (HC.out _ (HS.out.later J.w)).mono ?_); rintro e w1 ⟨rfl, hb1⟩)
    have J1 := J.later hb1
    go_wp2
    go_ret2
    exact ⟨_, rfl, .inl ⟨none, 0, rfl, rfl⟩, J1.w⟩
  subst hc
  have hE2 := HE.out
  rw [if_neg (by simp)] at hE2
  by_cases hr : r = 0
  rotate_left
  · obtain rfl : D = ([], r) := by rw [hE2, if_pos hr]
    have y1 : (r != 0) = true := bne_iff_ne.2 hr
    clear HE HD hr hE2
    go_enter Tryz.func13, Tryz.ntmps13
    go_wp2_with fail
    ((with_reducible refine (HC.out _ (HS.out.later J.w)).mono ?_); rintro e w1 ⟨rfl, hb1⟩)
    have J1 := J.later hb1
    obtain ⟨d0, d1, d2⟩ := cell3 J1.c
    have HJ1 := Lib.hid J1
    clear J J1 hb1
    go_wp2_with fail
    ((with_reducible refine (HR.out _).mono ?_); rintro e w2 ⟨rfl, hb2⟩)
    have J2 := HJ1.out.later hb2
    go_wp2
    go_ret2
    exact ⟨_, rfl, .inl ⟨none, 0, rfl, rfl⟩, J2.w⟩
  subst hr
  obtain rfl : D = D0 := by rw [hE2, if_neg (by simp)]
  clear HE hE2
  go_enter Tryz.func13, Tryz.ntmps13
  go_wp2_with fail
  ((with_reducible refine (HC.out _ (HS.out.later J.w)).mono ?_); rintro e w1 ⟨rfl, hb1⟩)
  have J1 := J.later hb1
  obtain ⟨d0, d1, d2⟩ := cell3 J1.c
  have HJ1 := Lib.hid J1
  clear J J1 hb1
  go_wp2_with fail
  ((with_reducible refine (HR.out _).mono ?_); rintro e w2 ⟨rfl, hb2⟩)
  have J2 := HJ1.out.later hb2
  obtain ⟨f0, f1, f2⟩ := cell3 J2.c
  have HJ2 := Lib.hid J2
  clear J2 hb2 d0 d1 d2
  go_wp2_with fail
  ((with_reducible refine (HD.out _ (HS.out.later HJ2.out.w) (by trivial) (by trivial)).mono ?_); rintro e w3 ⟨v3, rfl, hO, hb3⟩)
  have J3 := HJ2.out.later hb3
  have HO := Lib.hid hO
  clear hO hb3
  go_wp2
  go_ret2
  exact ⟨_, rfl, HO.out, J3.w⟩
end Go.Proofs.Wk
/- REGISTERS OF LOTS: All. -/
namespace Go.Proofs.Wk
open Go.RowKit Mt

/-- A register, an index, an error's number. -/
def AllP (w : World) (r : List Rg.Lt × Int × Int) (e : Ending) (w' : World) : Prop := ∃ v', e = .returned (.tuple #[v', .int .i64 r.2.1, .int .i64 r.2.2]) ∧ SlX w' v' r.1 ∧ Below w.heap.size w w'
theorem allF_step {out : List Rg.Lt} {es : List Rg.En} {i : Nat} (hi : i < es.length) : Rg.allF out i (es.drop i) =
    if Rg.rightE es[i] ≠ 0 then ([], (i : Int), Rg.rightE es[i]) else if (Rg.doneL out es[i]).2 ≠ 0 then ([], (i : Int), (Rg.doneL out es[i]).2) else Rg.allF (Rg.doneL out es[i]).1 (i + 1) (es.drop (i + 1)) := by
  rw [List.drop_eq_getElem_cons hi, Rg.allF]
set_option maxRecDepth 100000 in
set_option maxHeartbeats 4000000 in
theorem All_c {v : Value} (es : List Rg.En) (w : World) (S : SlX w v es) (hln : es.length ≤ 140737488355328) (hn : ∀ x ∈ es, x.lot.length ≤ 140737488355328) : Calls Tryz.prog 8 #[v] w (AllP w (Rg.allL es)) := by
  rcases S with ⟨a, cap, rfl, rfl⟩ | ⟨b, off, cap, rfl, hR, hb⟩
  · go_enter Tryz.func8, Tryz.ntmps8
    go_wp2_with fail
    refine wp_loop_rounds 1 ?_
    rw [rounds_succ]
    go_wp2
    go_ret3
    exact ⟨_, rfl, .inl ⟨none, 0, rfl, rfl⟩, Below.refl _ _⟩
  have hE : Rg.allL es = if 4096 < es.length then ([], 0, 5) else Rg.allF [] 0 es := rfl
  generalize Rg.allL es = E at *
  by_cases h1 : 4096 < es.length
  · obtain rfl : E = ([], 0, 5) := by rw [hE, if_pos h1]
    clear hE
    go_enter Tryz.func8, Tryz.ntmps8
    go_wp2
    go_ret3
    exact ⟨_, rfl, .inl ⟨none, 0, rfl, rfl⟩, Below.refl _ _⟩
  have HE := Lib.hid (show Rg.allF [] 0 (es.drop 0) = E by rw [hE, if_neg h1]; rfl)
  have HR := Lib.hid hR
  have HN := Lib.hid hn
  clear hE hR hn
  go_enter Tryz.func8, Tryz.ntmps8
  go_wp2_with fail
  go_loopw [5, 14] (fun so si wr => ∃ (i : Nat) (out : List Rg.Lt), si = .int .i64 (i : Int) ∧ i ≤ es.length ∧ Hid (SlX wr so out) ∧ Hid (Rg.chkE out = 0) ∧ Hid (Rg.allF out i (es.drop i) = E) ∧ Below w.heap.size w wr) (fun _ si _ => es.length - (intOf si).toNat)
  case atStart => exact ⟨0, [], rfl, Nat.zero_le _, .inl ⟨none, 0, rfl, rfl⟩, rfl, HE.out, Below.refl _ _⟩
  case round =>
    obtain ⟨i, out, rfl, hi, hO, hC, hc, hB⟩ := hrel
    by_cases hlt : i < es.length
    · obtain ⟨k0, k1, k2⟩ := (HR.out.later hB hb).ent hlt
      have hstep := hc.out
      rw [allF_step hlt] at hstep
      have HRI := Lib.hid (fun W => right_g es[i] W (HN.out _ (List.getElem_mem hlt)))
      have HD := Lib.hid (fun W u (S : SlX W u out) (hx : Rg.rightE es[i] = 0) => done_c out es[i] W S hC.out hx)
      have HOK := Lib.hid (fun (hx : Rg.rightE es[i] = 0) (hy : (Rg.doneL out es[i]).2 = 0) => (Rg.done_ok hC.out hx hy).1)
      generalize es[i] = x at *
      obtain ⟨k, lot, n⟩ := x
      simp only at k0 k1 k2
      generalize Rg.rightE ⟨k, lot, n⟩ = r at *
      generalize Rg.doneL out ⟨k, lot, n⟩ = D at *
      obtain ⟨dl, dc⟩ := D
      simp only at hstep
      have HST := Lib.hid hstep
      have J := BX.new wr #[.int .i64 k, .string ⟨lot.toArray⟩, .int .i64 n] 28
      clear hstep hc HE
      by_cases hr : r = 0
      rotate_left
      · obtain rfl : ([], (i : Int), r) = E := by rw [← HST.out, if_pos hr]
        have y1 : (r != 0) = true := bne_iff_ne.2 hr
        have y2 : (r == 0) = false := beq_eq_false_iff_ne.2 hr
        clear HST HD HOK hr
        go_wp2_with fail
        ((with_reducible refine (HRI.out _).mono ?_); rintro e w1 ⟨rfl, hb1⟩)
        have J1 := J.later hb1
        have HBW := Lib.hid (hB.trans (J1.w.mono hB.size))
        clear J J1 hb1
        go_wp2
        go_ret3
        exact ⟨_, rfl, .inl ⟨none, 0, rfl, rfl⟩, HBW.out⟩
      subst hr
      go_wp2_with fail
      ((with_reducible refine (HRI.out _).mono ?_); rintro e w1 ⟨rfl, hb1⟩)
      have J1 := J.later hb1
      obtain ⟨d0, d1, d2⟩ := cell3 J1.c
      have HJ1 := Lib.hid J1
      clear J J1 hb1 k0 k1 k2
      go_wp2_with fail
      ((with_reducible refine (HD.out _ _ (hO.out.later HJ1.out.w) (by trivial)).mono ?_); rintro e w2 ⟨v2, rfl, hO2, hb2⟩)
      have HBW := Lib.hid (hB.trans ((HJ1.out.later hb2).w.mono hB.size))
      have HO2 := Lib.hid hO2
      have hst := HST.out
      simp only [ne_eq, not_true_eq_false, if_false] at hst
      clear hb2 hO2 HST
      by_cases hd : dc = 0
      · subst hd
        have HS2 := Lib.hid (show Rg.allF dl (i + 1) (es.drop (i + 1)) = E by simpa using hst)
        clear hst
        go_wp2
        go_roundw
        case rel => exact ⟨i + 1, dl, by go_num, by omega, HO2.out, HOK.out (by trivial) (by trivial), HS2.out, HBW.out⟩
        case measure => simp [intOf]; omega
      · obtain rfl : ([], (i : Int), dc) = E := by rw [← hst, if_pos hd]
        have y1 : (dc != 0) = true := bne_iff_ne.2 hd
        clear hst hd
        go_wp2
        go_ret3
        exact ⟨_, rfl, .inl ⟨none, 0, rfl, rfl⟩, HBW.out⟩
    · obtain rfl : i = es.length := by omega
      have hfin := hc.out
      rw [List.drop_length] at hfin
      obtain rfl : (out, 0, 0) = E := hfin
      clear hc HE
      go_wp2
      go_ret3
      exact ⟨_, rfl, hO.out, hB⟩
end Go.Proofs.Wk
