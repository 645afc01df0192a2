/- REGISTERS OF LOTS: a text that is cut at a byte; the next line of a journal. -/
import Derived.Test.YtmbbppiikpfkcaaGreatDoorLB
import Derived.Test.YtmbbppiikpfkcaaGreatDoorKF
namespace Go.Proofs.Wk
open Go.RowKit Mt

abbrev cutV (r : Txt × Txt × Bool) : Value := .tuple #[.string ⟨r.1.toArray⟩, .string ⟨r.2.1.toArray⟩, .bool r.2.2]
set_option maxRecDepth 100000 in
theorem cut2B_c (c : UInt8) (l : Txt) (w : World) (hl : l.length ≤ 140737488355328) : Calls Tryz.prog 128 #[.string ⟨l.toArray⟩, .string ⟨#[c]⟩] w (Ret w (cutV (Rg.cutB c l))) := by
  have hs := Tryz.stringslite_Index_one ⟨l.toArray⟩ c w
  rw [show (⟨l.toArray⟩ : ByteArray).data.toList = l from rfl] at hs
  rcases Rg.cutB_cases c l with ⟨h, e⟩ | ⟨a, b, h, e1, e⟩
  · rw [Rg.indexByte_no h] at hs
    rw [e]
    have HS := Lib.hid hs
    clear hs h e
    go_enter Tryz.func128, Tryz.ntmps128
    go_wp2_with fail
    refine HS.out.mono ?_; rintro e w1 ⟨rfl, rfl⟩
    go_wp2
    go_ret3
    exact ⟨rfl, Below.refl _ _⟩
  · rw [e]
    have hi := Rg.indexByte_at b h
    rw [← e1] at hi
    rw [hi] at hs
    have q1 : l.drop (a.length + 1) = b := by
      rw [e1, show a ++ c :: b = (a ++ [c]) ++ b by simp, show a.length + 1 = (a ++ [c]).length by simp]; exact List.drop_left
    have q2 : l.take a.length = a := by rw [e1]; exact List.take_left
    have q3 : a.length < l.length := by rw [e1]; simp
    obtain ⟨n, hn⟩ : ∃ n, a.length = n := ⟨_, rfl⟩
    rw [hn] at hs q1 q2 q3
    have HS := Lib.hid hs; have E1 := Lib.hid q1; have E2 := Lib.hid q2
    clear hs h e e1 hi q1 q2 hn
    go_enter Tryz.func128, Tryz.ntmps128
    go_wp2_with fail
    refine HS.out.mono ?_; rintro e w1 ⟨rfl, rfl⟩
    have g1 : (n : Int) ≤ (l.length : Int) := by omega
    have g2 : (0 : Int) ≤ (n : Int) + 1 := by omega
    have g3 : (n : Int) + 1 ≤ (l.length : Int) := by omega
    have g4 : IntKind.i64.wrap ((n : Int) + 1) = (n : Int) + 1 := IntWalk.i64_in _ (by omega)
    have g5 : ((n : Int) + 1).toNat = n + 1 := by omega
    go_wp2_with fail
    go_region
    all_goals (go_wp2; go_ret3)
    all_goals
      refine ⟨?_, (Below.refl _ _).drew⟩
      rw [← E1.out, ← E2.out]
      have e6 : (l.drop (n + 1)).take (l.length - (n + 1)) = l.drop (n + 1) := List.take_of_length_le (by simp)
      conv => rhs; rw [← e6]
      rfl
set_option maxRecDepth 100000 in
theorem cutB_c (c : UInt8) (l : Txt) (w : World) (hl : l.length ≤ 140737488355328) : Calls Tryz.prog 87 #[.string ⟨l.toArray⟩, .string ⟨#[c]⟩] w (Ret w (cutV (Rg.cutB c l))) := by
  have HC := Lib.hid (fun W => cut2B_c c l W hl)
  clear hl
  generalize Rg.cutB c l = r at *
  obtain ⟨x, y, z⟩ := r
  go_enter Tryz.func87, Tryz.ntmps87
  go_wp2_with fail
  ((with_reducible refine (HC.out _).mono ?_); rintro e w1 ⟨rfl, hb1⟩)
  go_wp2
  go_ret3
  exact ⟨rfl, hb1⟩
/-- All but one block is as it was. -/
structure Sav (b : Nat) (w w' : World) : Prop where
  os : w'.os = w.os
  tape : w'.tape = w.tape
  output : w'.output = w.output
  size : w.heap.size ≤ w'.heap.size
  block : ∀ k, k < w.heap.size → k ≠ b → w'.heap[k]? = w.heap[k]?
theorem Below.sav {b : Nat} {w w' : World} (h : Below w.heap.size w w') : Sav b w w' := ⟨h.os, h.tape, h.output, h.size, fun k hk _ => h.block k hk⟩
theorem Sav.trans {b : Nat} {w w1 w2 : World} (h : Sav b w w1) (k : Sav b w1 w2) : Sav b w w2 :=
  ⟨k.os.trans h.os, k.tape.trans h.tape, k.output.trans h.output, Nat.le_trans h.size k.size, fun j hj hb => (k.block j (Nat.lt_of_lt_of_le hj h.size) hb).trans (h.block j hj hb)⟩
theorem Sav.set (b : Nat) (w : World) (j : Nat) (v : Value) : Sav b w (w.setCell ⟨b, j, none⟩ v) :=
  ⟨rfl, rfl, rfl, by simp, fun k _ hb => heap_setCell_other w ⟨b, j, none⟩ k v hb⟩
theorem Sav.below {b B : Nat} {w w' : World} (h : Sav b w w') (hB : B ≤ b) (hs : B ≤ w.heap.size) : Below B w w' :=
  ⟨h.os, h.tape, h.output, h.size, fun k hk => h.block k (by omega) (by omega)⟩
theorem SlX.sav {α : Type} [Row α] {w w' : World} {v : Value} {ls : List α} {b : Nat} {cs : Array Value} {T : TypeId} {fr : Nat × Nat} (h : SlX w v ls) (hb : w.heap[b]? = some (.cells cs T fr)) (hc : cs.size < Row.k α) (hs : Sav b w w') : SlX w' v ls := by
  rcases h with h | ⟨b', off, cap, rfl, hR, hl⟩
  · exact .inl h
  · by_cases h0 : ls.length = 0
    · obtain rfl := List.length_eq_zero_iff.1 h0
      exact .inl ⟨_, cap, rfl, rfl⟩
    · have hne : b' ≠ b := by
        rintro rfl
        have hp : Row.k α - 1 < Row.k α := by have := Row.pos (α := α); omega
        have := hR 0 (by omega) (Row.k α - 1) hp
        rw [cell_of_row w b' _ _ _ _ hb, Array.getElem?_eq_none (by omega)] at this
        have h2 : (Row.k α - 1) < (Row.enc ls[0]).length := by rw [Row.len]; exact hp
        rw [List.getElem?_eq_getElem h2] at this
        cases this
      refine .inr ⟨b', off, cap, rfl, fun i hi j hj => ?_, Nat.lt_of_lt_of_le hl hs.size⟩
      rw [← hR i hi j hj, World.cell?_of_block (hs.block b' hl hne)]
/-- A reader that lies at a block. -/
def RdAt (w : World) (b : Nat) (r : Rg.Rd) : Prop := ∃ v, w.heap[b]? = some (.cells #[v, .int .i64 (r.n : Int), .int .i64 r.h, .string ⟨r.rest.toArray⟩] 81 (0, 0)) ∧ SlX w v r.lots
theorem RdAt.later {w w' : World} {b : Nat} {r : Rg.Rd} (h : RdAt w b r) (hb : Below w.heap.size w w') : RdAt w' b r := by
  obtain ⟨v, h1, h2⟩ := h
  exact ⟨v, by rw [hb.block b (Array.getElem?_eq_some_iff.1 h1).1]; exact h1, h2.later hb⟩
theorem RdAt.lt {w : World} {b : Nat} {r : Rg.Rd} (h : RdAt w b r) : b < w.heap.size := by
  obtain ⟨v, h1, -⟩ := h; exact (Array.getElem?_eq_some_iff.1 h1).1
theorem cell4 {w : World} {b : Nat} {u0 u1 u2 u3 : Value} {T : TypeId} {fr : Nat × Nat} (h : w.heap[b]? = some (.cells #[u0, u1, u2, u3] T fr)) :
    w.cell? ⟨b, 0, none⟩ = some u0 ∧ w.cell? ⟨b, 1, none⟩ = some u1 ∧ w.cell? ⟨b, 2, none⟩ = some u2 ∧ w.cell? ⟨b, 3, none⟩ = some u3 :=
  ⟨by rw [cell_of_row _ _ _ _ _ _ h]; rfl, by rw [cell_of_row _ _ _ _ _ _ h]; rfl, by rw [cell_of_row _ _ _ _ _ _ h]; rfl, by rw [cell_of_row _ _ _ _ _ _ h]; rfl⟩
theorem put4 {w : World} {g : Nat} {u0 u1 u2 u3 v0 v1 v2 v3 : Value} {T : TypeId} (h : w.heap[g]? = some (.cells #[u0, u1, u2, u3] T (0, 0))) :
    ((((w.setCell ⟨g, 0, none⟩ v0).setCell ⟨g, 1, none⟩ v1).setCell ⟨g, 2, none⟩ v2).setCell ⟨g, 3, none⟩ v3).heap[g]? = some (.cells #[v0, v1, v2, v3] T (0, 0)) := by
  have h0 : (w.setCell ⟨g, 0, none⟩ v0).heap[g]? = some (.cells #[v0, u1, u2, u3] T (0, 0)) := heap_setCell_same w g 0 _ _ v0 h
  generalize w.setCell ⟨g, 0, none⟩ v0 = w at *
  have h1 : (w.setCell ⟨g, 1, none⟩ v1).heap[g]? = some (.cells #[v0, v1, u2, u3] T (0, 0)) := heap_setCell_same w g 1 _ _ v1 h0
  generalize w.setCell ⟨g, 1, none⟩ v1 = w at *
  have h2 : (w.setCell ⟨g, 2, none⟩ v2).heap[g]? = some (.cells #[v0, v1, v2, u3] T (0, 0)) := heap_setCell_same w g 2 _ _ v2 h1
  generalize w.setCell ⟨g, 2, none⟩ v2 = w at *
  exact heap_setCell_same w g 3 _ _ v3 h2
theorem sav4 {w : World} {g : Nat} {v0 v1 v2 v3 : Value} : Sav g w ((((w.setCell ⟨g, 0, none⟩ v0).setCell ⟨g, 1, none⟩ v1).setCell ⟨g, 2, none⟩ v2).setCell ⟨g, 3, none⟩ v3) :=
  (((Sav.set g w 0 v0).trans (Sav.set g _ 1 v1)).trans (Sav.set g _ 2 v2)).trans (Sav.set g _ 3 v3)
/-- What the next line gives. -/
def LnP (w : World) (b : Nat) (r : Rg.Rd) (e : Ending) (w' : World) : Prop := e = .returned (.int .i64 (Rg.lnE r)) ∧ Sav b w w' ∧ RdAt w' b (if Rg.lnE r = 0 then Rg.lnR r else r)
theorem LnP.bad {w w' : World} {b : Nat} {r : Rg.Rd} {c : Int} (hc : Rg.lnE r = c) (h0 : c ≠ 0) (h : RdAt w b r) (hb : Below w.heap.size w w') : LnP w b r (.returned (.int .i64 c)) w' := by
  subst hc
  exact ⟨rfl, Below.sav hb, by rw [if_neg h0]; exact h.later hb⟩
end Go.Proofs.Wk
/- REGISTERS OF LOTS: the next line of a journal: the program's walk. -/
namespace Go.Proofs.Wk
open Go.RowKit Mt

theorem SlX.shape {α : Type} [Row α] {w : World} {v : Value} {ls : List α} (h : SlX w v ls) : ∃ a c, v = .slice a ls.length c := by
  rcases h with ⟨a, c, rfl, rfl⟩ | ⟨b, off, c, rfl, -, -⟩
  · exact ⟨a, c, rfl⟩
  · exact ⟨_, c, rfl⟩
/-- A reader's block with its slice under a name. -/
structure RdV (v : Value) (w0 w : World) (b : Nat) (lots : List Rg.Lt) (n : Nat) (h : Int) (rest : Txt) : Prop where
  c : w.heap[b]? = some (.cells #[v, .int .i64 (n : Int), .int .i64 h, .string ⟨rest.toArray⟩] 81 (0, 0))
  s : SlX w v lots
  w : Below w0.heap.size w0 w
theorem RdV.later {v : Value} {w0 w w' : World} {b : Nat} {lots : List Rg.Lt} {n : Nat} {h : Int} {rest : Txt} (j : RdV v w0 w b lots n h rest) (hb : Below w.heap.size w w') : RdV v w0 w' b lots n h rest :=
  ⟨by rw [hb.block b (Array.getElem?_eq_some_iff.1 j.c).1]; exact j.c, j.s.later hb, j.w.trans (hb.mono j.w.size)⟩
set_option maxRecDepth 100000 in
set_option maxHeartbeats 4000000 in
theorem line_c (b : Nat) (r : Rg.Rd) (w : World) (hg0 : GoodS w) (hJ : RdAt w b r) (hr : Rg.RdOk r) (hl : r.rest.length ≤ 140737488355328) :
    Calls Tryz.prog 59 #[.pointer (some ⟨b, 0, none⟩)] w (LnP w b r) := by
  have HR0 := Lib.hid hJ
  obtain ⟨v, hb0, hS⟩ := hJ
  obtain ⟨hk, hn, hh⟩ := hr
  have hE : Rg.lnE r = if r.n = 4096 then 5 else if (Rg.cutB 10 r.rest).2.2 = false then 18
    else if (Rg.cutB 32 (Rg.cutB 10 r.rest).1).2.2 = false ∨ (Rg.cutB 32 (Rg.cutB 10 r.rest).1).1 ≠ Go.Lib.itoa (Rg.sumL r.h (Rg.cutB 32 (Rg.cutB 10 r.rest).1).2.1) then 19
    else if (Rg.rdL (Rg.cutB 32 (Rg.cutB 10 r.rest).1).2.1).2 ≠ 0 then 4 else (Rg.doneL r.lots (Rg.rdL (Rg.cutB 32 (Rg.cutB 10 r.rest).1).2.1).1).2 := rfl
  have hR : Rg.lnR r = ⟨(Rg.doneL r.lots (Rg.rdL (Rg.cutB 32 (Rg.cutB 10 r.rest).1).2.1).1).1, r.n + 1, Rg.sumL r.h (Rg.cutB 32 (Rg.cutB 10 r.rest).1).2.1, (Rg.cutB 10 r.rest).2.1⟩ := rfl
  obtain ⟨z1, z2, -⟩ := Rg.cutB_len (c := 10) (s := r.rest)
  obtain ⟨z3, z4, -⟩ := Rg.cutB_len (c := 32) (s := (Rg.cutB 10 r.rest).1)
  have HC1 := Lib.hid (fun W => cutB_c 10 r.rest W hl)
  have HC2 := Lib.hid (fun W => cutB_c 32 (Rg.cutB 10 r.rest).1 W (by omega))
  have HS := Lib.hid (fun W => Sum_c r.h (Rg.cutB 32 (Rg.cutB 10 r.rest).1).2.1 W (by omega))
  have hin := Rg.sumL_in r.h (Rg.cutB 32 (Rg.cutB 10 r.rest).1).2.1
  have HI := Lib.hid (fun W (hW : GoodS W) => Itoa_c (Rg.sumL r.h (Rg.cutB 32 (Rg.cutB 10 r.rest).1).2.1) W hW.g (by omega) (by omega))
  have hq := fun W hW => Read_c (Rg.cutB 32 (Rg.cutB 10 r.rest).1).2.1 W hW (by omega)
  rw [show Rg.readL Rg.numA (Rg.cutB 32 (Rg.cutB 10 r.rest).1).2.1 = Rg.rdL (Rg.cutB 32 (Rg.cutB 10 r.rest).1).2.1 from Rg.read_same Rg.reads_numA Rg.reads_numR _] at hq
  have HQ := Lib.hid hq
  have hrt := Rg.rdL_right (s := (Rg.cutB 32 (Rg.cutB 10 r.rest).1).2.1)
  generalize Rg.rdL (Rg.cutB 32 (Rg.cutB 10 r.rest).1).2.1 = RD at *
  have HD := Lib.hid (fun (hx : Rg.rightE RD.1 = 0) W (S : SlX W v r.lots) => done_c r.lots RD.1 W S hk hx)
  generalize Rg.doneL r.lots RD.1 = D at *
  generalize Rg.sumL r.h (Rg.cutB 32 (Rg.cutB 10 r.rest).1).2.1 = H at *
  generalize Rg.cutB 32 (Rg.cutB 10 r.rest).1 = C2 at *
  generalize Rg.cutB 10 r.rest = C1 at *
  have hj0 : RdV v w w b r.lots r.n r.h r.rest := ⟨hb0, hS, Below.refl _ _⟩
  clear hb0 hS hk hh hq hl z1 z2 z3 z4
  generalize r.lots = lots at *
  generalize r.n = n at *
  generalize r.h = h at *
  generalize r.rest = rest at *
  obtain ⟨ln, nx, ok1⟩ := C1
  obtain ⟨nm, tx, ok2⟩ := C2
  obtain ⟨⟨xk, xl, xn⟩, rc⟩ := RD
  obtain ⟨l', dc⟩ := D
  dsimp only at HC1 HC2 HS HQ HD hE hR hrt
  have HE := Lib.hid hE
  have HNR := Lib.hid hR
  have HG := Lib.hid (fun W (hb : Below w.heap.size w W) => hg0.later hb)
  have HRT := Lib.hid hrt
  obtain ⟨d0, d1, d2, d3⟩ := cell4 hj0.c
  have HJ0 := Lib.hid hj0
  clear hE hR hrt hj0 hg0
  by_cases hn4 : n = 4096
  · have y1 : ((n : Int) == 4096) = true := by rw [beq_iff_eq]; omega
    have HF := Lib.hid (show Rg.lnE r = 5 by rw [HE.out, if_pos hn4])
    clear HC1 HC2 HS HI HQ HD HE HNR HRT hin hn hn4
    go_enter Tryz.func59, Tryz.ntmps59
    go_wp2
    go_ret
    exact LnP.bad HF.out (by decide) HR0.out (Below.refl _ _)
  have y1 : ((n : Int) == 4096) = false := by rw [beq_eq_false_iff_ne]; omega
  have HE2 := Lib.hid (by have := HE.out; rwa [if_neg hn4] at this)
  clear HE hn4
  go_enter Tryz.func59, Tryz.ntmps59
  go_wp2_with fail
  ((with_reducible refine (HC1.out _).mono ?_); rintro e w1 ⟨rfl, hb1⟩)
  have HJ1 := Lib.hid (HJ0.out.later hb1)
  clear hb1 HJ0 HC1 d0 d1 d2 d3
  cases ok1 with
  | false =>
    have HF := Lib.hid (show Rg.lnE r = 18 by rw [HE2.out, if_pos rfl])
    clear HC2 HS HI HQ HD HE2 HNR HRT hin hn
    go_wp2
    go_ret
    exact LnP.bad HF.out (by decide) HR0.out HJ1.out.w
  | true =>
  have HE3 := Lib.hid (by have := HE2.out; rwa [if_neg (by simp)] at this)
  clear HE2
  go_wp2_with fail
  ((with_reducible refine (HC2.out _).mono ?_); rintro e w2 ⟨rfl, hb2⟩)
  have j2 := HJ1.out.later hb2
  obtain ⟨d0, d1, d2, d3⟩ := cell4 j2.c
  have HJ2 := Lib.hid j2
  clear hb2 HJ1 HC2 j2
  go_wp2_with fail
  ((with_reducible refine (HS.out _).mono ?_); rintro e w3 ⟨rfl, hb3⟩)
  have j3 := HJ2.out.later hb3
  have HG3 := Lib.hid (HG.out _ j3.w)
  have HJ3 := Lib.hid j3
  clear hb3 HJ2 HS j3 d0 d1 d2 d3
  cases ok2 with
  | false =>
    have HF := Lib.hid (show Rg.lnE r = 19 by rw [HE3.out, if_pos (.inl rfl)])
    clear HI HQ HD HE3 HNR HRT hin hn
    go_wp2
    go_ret
    exact LnP.bad HF.out (by decide) HR0.out HJ3.out.w
  | true =>
  go_wp2_with fail
  ((with_reducible refine (HI.out _ HG3.out).mono ?_); rintro e w4 ⟨rfl, hb4⟩)
  have j4 := HJ3.out.later hb4
  have HG4 := Lib.hid (HG.out _ j4.w)
  have HJ4 := Lib.hid j4
  clear hb4 HJ3 HI HG3 j4
  generalize Go.Lib.itoa H = ti at *
  by_cases hnm : nm = ti
  rotate_left
  · have HF := Lib.hid (show Rg.lnE r = 19 by rw [HE3.out, if_pos (.inr hnm)])
    have y2 : (nm == ti) = false := beq_eq_false_iff_ne.2 hnm
    have y3 : (nm != ti) = true := by rw [bne, y2]; rfl
    clear HQ HD HE3 HNR HRT hin hn hnm
    go_wp2
    go_ret
    exact LnP.bad HF.out (by decide) HR0.out HJ4.out.w
  have HE4 := Lib.hid (by have := HE3.out; rwa [if_neg (by rintro (q | q); cases q; exact q hnm)] at this)
  have y2 : (nm == ti) = true := beq_iff_eq.2 hnm
  have y3 : (nm != ti) = false := by rw [bne, y2]; rfl
  clear HE3 hnm
  go_wp2_with fail
  ((with_reducible refine (HQ.out _ HG4.out).mono ?_); rintro e w5 ⟨rfl, hb5⟩)
  have j5 := (HJ4.out.later hb5).later ((Below.refl _ _).alloc (Nat.le_refl _) (.cells #[.int .i64 xk, .string ⟨xl.toArray⟩, .int .i64 xn] 28))
  obtain ⟨d0, d1, d2, d3⟩ := cell4 j5.c
  have HJ5 := Lib.hid j5
  clear hb5 HJ4 HQ HG4 y2 y3 j5 HG
  by_cases hrc : rc = 0
  rotate_left
  · have HF := Lib.hid (show Rg.lnE r = 4 by rw [HE4.out, if_pos hrc])
    have y2 : (rc != 0) = true := bne_iff_ne.2 hrc
    clear HD HE4 HNR HRT hin hn hrc
    go_wp2
    go_ret
    exact LnP.bad HF.out (by decide) HR0.out HJ5.out.w
  subst hrc
  have HE5 := Lib.hid (by have := HE4.out; rwa [if_neg (by simp)] at this)
  have HDD := Lib.hid (HD.out (HRT.out rfl))
  clear HE4 HD HRT
  go_upto_region 13 with fail
  have hent := heap_alloc_new w5 (.cells #[.int .i64 xk, .string ⟨xl.toArray⟩, .int .i64 xn] 28)
  obtain ⟨e0, e1, e2⟩ := cell3 hent
  have HJ6 := Lib.hid (HJ5.out.later (Below.refl _ _).drew)
  clear hent HJ5
  generalize w5.alloc (.cells #[.int .i64 xk, .string ⟨xl.toArray⟩, .int .i64 xn] 28) = W5 at *
  generalize w5.heap.size = eb at *
  have HS6 := Lib.hid HJ6.out.s
  go_wp2_with fail
  go_region_with (first
    | (go_at_call 22; (with_reducible refine (HDD.out _ HS6.out).mono ?_); rintro e w6 ⟨v6, rfl, hs6, hb6⟩; obtain ⟨a6, c6, rfl⟩ := hs6.shape; have HJ7 := Lib.hid (HJ6.out.later hb6); have HS7 := Lib.hid hs6; clear hs6 hb6)
    | fail)
  all_goals
    have j7 := HJ7.out
    obtain ⟨f0, f1, f2, f3⟩ := cell4 j7.c
    have z0 := frozen_of_row w6 b 0 _ _ j7.c
    have z1 := frozen_of_row w6 b 1 _ _ j7.c
    have z2 := frozen_of_row w6 b 2 _ _ j7.c
    have z3 := frozen_of_row w6 b 3 _ _ j7.c
    clear d0 d1 d2 d3 e0 e1 e2 HDD HS6 HJ6 j7
    by_cases hdc : dc = 0
    · subst hdc
      clear HR0
      go_wp2
      go_ret
      refine ⟨by rw [HE5.out]; rfl, (Below.sav HJ7.out.w).trans sav4, ?_⟩
      rw [if_pos HE5.out, HNR.out]
      refine ⟨.slice a6 l'.length c6, ?_, HS7.out.sav HJ7.out.c (show 4 < 7 by decide) sav4⟩
      dsimp only
      rw [show (((n + 1 : Nat)) : Int) = (n : Int) + 1 from by omega]
      exact put4 HJ7.out.c
    · have y2 : (dc != 0) = true := bne_iff_ne.2 hdc
      have HND := Lib.hid hdc
      clear hdc
      go_wp2
      go_ret
      exact LnP.bad HE5.out HND.out HR0.out HJ7.out.w
end Go.Proofs.Wk
