/- REGISTERS OF LOTS: done: what an entry makes of a register. -/
import Derived.Test.YtmbbppiikpfkcaaGreatDoorKE
import Derived.Test.YtmbbppiikpfkcaaGreatDoorKD
namespace Go.Proofs.Wk
open Go.RowKit Mt

/-- A register and an error's number. -/
def DoneP (w : World) (r : List Rg.Lt × Int) (e : Ending) (w' : World) : Prop := ∃ v', e = .returned (.tuple #[v', .int .i64 r.2]) ∧ SlX w' v' r.1 ∧ Below w.heap.size w w'
theorem doneL_k {ls : List Rg.Lt} {x : Rg.En} (k : x.k ≠ 0) (hh : Rg.has ls x.lot = true) (hp : Rg.pos ls x.lot < ls.length) :
    Rg.doneL ls x = if (Rg.changed ls[Rg.pos ls x.lot] x).2 ≠ 0 then ([], (Rg.changed ls[Rg.pos ls x.lot] x).2) else (ls.set (Rg.pos ls x.lot) (Rg.changed ls[Rg.pos ls x.lot] x).1, 0) := by
  unfold Rg.doneL
  rw [if_neg k, List.getElem?_eq_getElem hp]
  simp only [if_pos hh]
theorem doneL_n {ls : List Rg.Lt} {x : Rg.En} (k : x.k ≠ 0) (hh : Rg.has ls x.lot = false) : Rg.doneL ls x = ([], 6) := by
  unfold Rg.doneL
  rw [if_neg k]
  cases ls[Rg.pos ls x.lot]? with
  | none => rfl
  | some a => simp only [hh]; rfl
theorem doneL_t {ls : List Rg.Lt} {x : Rg.En} (k : x.k = 0) (hh : Rg.has ls x.lot = true) : Rg.doneL ls x = ([], 7) := by
  unfold Rg.doneL
  rw [if_pos k, if_pos hh]
theorem doneL_f {ls : List Rg.Lt} {x : Rg.En} (k : x.k = 0) (hh : Rg.has ls x.lot = false) (h : ls.length = 256) : Rg.doneL ls x = ([], 5) := by
  unfold Rg.doneL
  rw [if_pos k, if_neg (by rw [hh]; decide), if_pos h]
theorem doneL_o {ls : List Rg.Lt} {x : Rg.En} (k : x.k = 0) (hh : Rg.has ls x.lot = false) (h : ls.length ≠ 256) : Rg.doneL ls x = (ls.take (Rg.pos ls x.lot) ++ Rg.newLot x :: ls.drop (Rg.pos ls x.lot), 0) := by
  unfold Rg.doneL
  rw [if_pos k, if_neg (by rw [hh]; decide), if_neg h]
theorem RX.put {w w' : World} {g : Nat} {ls : List Rg.Lt} {i : Nat} {y : Rg.Lt} (h : RX w g 0 ls) (hp : PutC w w' g (i * 7) y) : RX w' g 0 (ls.set i y) := fun i' hi' j hj => by
  rw [List.length_set] at hi'
  have hj : j < 7 := hj
  show w'.cell? ⟨g, 0 + i' * 7 + j, none⟩ = _
  rw [hp]
  by_cases e : i = i'
  · subst e
    rw [if_pos (by omega), List.getElem_set_self, show 0 + i * 7 + j - i * 7 = j by omega]
    rfl
  · rw [if_neg (by omega), List.getElem_set_ne e]
    exact h i' hi' j hj
theorem RX.at {w : World} {g : Nat} {ls : List Rg.Lt} (h : RX w g 0 ls) {i : Nat} (hi : i < ls.length) (hg : g < w.heap.size) : LotAt w g (i * 7) ls[i] := by
  have := h.lot hi
  simp only [Nat.zero_add] at this
  obtain ⟨k0, k1, k2, k3, k4, k5, k6⟩ := this
  exact ⟨k0, k1, k2, k3, k4, k5, k6, hg⟩
theorem tame {x : Rg.Lt} (h : Rg.lotE x = 0) : Tame x := by
  obtain ⟨⟨a, b⟩, c, d, e, f, -⟩ := (Rg.lotE_iff x).1 h
  exact ⟨⟨by omega, b⟩, c, d, e, f⟩
theorem Below.und {B : Nat} {w w' : World} (h : Below B w.drew w') : Below B w w' := ⟨h.os, h.tape, h.output, h.size, h.block⟩
theorem cell3 {w : World} {b : Nat} {u0 u1 u2 : Value} {T : TypeId} {fr : Nat × Nat} (h : w.heap[b]? = some (.cells #[u0, u1, u2] T fr)) : w.cell? ⟨b, 0, none⟩ = some u0 ∧ w.cell? ⟨b, 1, none⟩ = some u1 ∧ w.cell? ⟨b, 2, none⟩ = some u2 :=
  ⟨by rw [cell_of_row _ _ _ _ _ _ h]; rfl, by rw [cell_of_row _ _ _ _ _ _ h]; rfl, by rw [cell_of_row _ _ _ _ _ _ h]; rfl⟩
end Go.Proofs.Wk
/- REGISTERS OF LOTS: done, kinds 1 to 3. -/
namespace Go.Proofs.Wk
open Go.RowKit Mt

set_option maxRecDepth 100000 in
set_option maxHeartbeats 2000000 in
theorem done_1 {v : Value} (ls : List Rg.Lt) (lot : Txt) (n : Int) (w : World) (S : SlX w v ls) (hl : Rg.chkE ls = 0) (hn : 0 ≤ n ∧ n ≤ 1048576) (hh : Rg.has ls lot = true) :
    Calls Tryz.prog 22 #[v, entV ⟨1, lot, n⟩] w (DoneP w (Rg.doneL ls ⟨1, lot, n⟩)) := by
  obtain ⟨hlen, hall, hs⟩ := (Rg.chkE_iff ls).1 hl
  obtain ⟨hp, -⟩ := (Rg.has_pos hs).1 hh
  have hD := doneL_k (ls := ls) (x := ⟨1, lot, n⟩) (by show (1 : Int) ≠ 0; decide) hh hp
  have HF := Lib.hid (fun W S => find_c ls lot W (v := v) S (by omega) hs)
  have HCl := Lib.hid (fun W S => clone_c ls W (v := v) S (by omega))
  have HW := Lib.hid (fun W => rows_c W)
  have HD := Lib.hid (fun W g (h : LotAt W g (Rg.pos ls lot * 7) ls[Rg.pos ls lot]) hz => rows1_c ls[Rg.pos ls lot] lot g (Rg.pos ls lot * 7) n W h hz (tame (hall _ (List.getElem_mem hp)).2) hn)
  have HS := Lib.hid S
  generalize Rg.doneL ls ⟨1, lot, n⟩ = D at *
  simp only at hD
  rw [hh] at HF
  have hat : ∀ (W : World) (g : Nat), RX W g 0 ls → g < W.heap.size → LotAt W g (Rg.pos ls lot * 7) ls[Rg.pos ls lot] := fun W g h hg => h.at hp hg
  generalize ls[Rg.pos ls lot] = a at *
  generalize Rg.changed a ⟨1, lot, n⟩ = R at *
  obtain ⟨y, c⟩ := R
  simp only at hD
  generalize Rg.pos ls lot = p at *
  have HDE := Lib.hid hD
  have HAT := Lib.hid hat
  have J := BX.new w #[.int .i64 1, .string ⟨lot.toArray⟩, .int .i64 n] 28
  clear hD hat hs hall hl hh S
  have hix : ∀ W, (Instr.index 100 rowsV (.int .i64 1)).run Tryz.prog W = .ok (.agg #[.string ⟨#[112, 97, 115, 115]⟩, .bool false, .func (.func 72) #[] #[]]) W := fun W => by
    simp [Instr.index, run_underlying Tryz.underlying100, asIntOf, part, Tryz.isAgg99, Tryz.sizeOf99]
  have hfd : ∀ W, (Instr.field 99 (.agg #[.string ⟨#[112, 97, 115, 115]⟩, .bool false, .func (.func 72) #[] #[]]) 2).run Tryz.prog W = .ok (.func (.func 72) #[] #[]) W := fun W => by
    simp [Instr.field, run_underlying Tryz.underlying99, asAgg, part, Tryz.isAgg97]
  go_enter Tryz.func22, Tryz.ntmps22
  go_wp2_with fail
  ((with_reducible refine (HF.out _ (HS.out.later J.w)).mono ?_); rintro e w1 ⟨rfl, hb1⟩)
  have J1 := J.later hb1
  have HJ1 := Lib.hid J1
  obtain ⟨d0, d1, d2⟩ := cell3 J1.c
  clear J J1 hb1
  go_wp2_with fail
  ((with_reducible refine (HCl.out _ (HS.out.later HJ1.out.w)).mono ?_); rintro e w2 ⟨v2, rfl, hC, hb2⟩)
  rcases hC with ⟨e0, -⟩ | ⟨h1, ⟨-, h2⟩ | ⟨g, cap, cur, rfl, e2, e3, e4, e5, e6, e7⟩⟩
  · rw [e0] at hp; exact absurd hp (Nat.not_lt_zero _)
  · omega
  have J2 := HJ1.out.later hb2
  obtain ⟨q0, q1, q2⟩ := cell3 J2.c
  have hg2 : g < w2.heap.size := (Array.getElem?_eq_some_iff.1 e3).1
  have HL2 := Lib.hid (HAT.out w2 g (RX.of_row e3 e7) hg2)
  have HR2 := Lib.hid (RX.of_row (ls := ls) e3 e7)
  have HZ2 := Lib.hid (show ∀ j, w2.frozen? ⟨g, j, none⟩ = false from fun j => by simp [World.frozen?, e3])
  have HJ2 := Lib.hid J2
  have HG := Lib.hid (show w.heap.size ≤ g from Nat.le_trans HJ1.out.w.size e2)
  clear d0 d1 d2 hb2 J2 e2 e3 e6 e7 h1
  go_wp2_with fail
  go_region_with (first
    | (go_at_call 46; (with_reducible refine (HW.out _).mono ?_); rintro e w3 ⟨rfl, hb3⟩; have hb3' : Below w2.heap.size w2 w3 := ⟨hb3.os, hb3.tape, hb3.output, hb3.size, hb3.block⟩; obtain ⟨s0, s1, s2⟩ := cell3 (HJ2.out.later hb3').c)
    | (go_at_call 72; (with_reducible refine (HD.out _ g ?_ ?_).mono ?_); exact HL2.out.later (by first | exact hb3' | exact hb3'.drew | exact hb3'.drew.drew); exact (fun j => (World.frozen?_of_block (hb3'.block g hg2)).trans (HZ2.out j)); rintro e w4 hd; obtain rfl := hd.1)
    | fail)
  all_goals
    have hR3 := HR2.out.later hb3' hg2
    have hBW : Below w.heap.size w w4 := (HJ2.out.w.trans (hb3'.mono HJ2.out.w.size)).trans (hd.2.1.mono HG.out)
    have hg4 : g < w4.heap.size := Nat.lt_of_lt_of_le hg2 (Nat.le_trans hb3'.size hd.2.1.size)
    have hDP := Lib.hid hd.2.2
    have hBW := Lib.hid hBW
    have hR3 := Lib.hid hR3
    clear hix hfd hb3 hb3' hd s0 s1 s2 q0 q1 q2
    by_cases hc : c = 0
    · have hP := Lib.hid (hDP.out hc)
      subst hc
      obtain rfl : D = (ls.set p y, 0) := by rw [HDE.out]; simp
      clear HDE hDP
      go_wp2
      go_ret2
      exact ⟨_, rfl, .inr ⟨g, 0, cap, by rw [List.length_set]; rfl, RX.put hR3.out hP.out, hg4⟩, hBW.out⟩
    · obtain rfl : D = ([], c) := by rw [HDE.out, if_pos hc]
      have y1 : (c != 0) = true := bne_iff_ne.2 hc
      clear HDE hDP hc
      go_wp2
      go_ret2
      exact ⟨_, rfl, .inl ⟨none, 0, rfl, rfl⟩, hBW.out⟩
set_option maxRecDepth 100000 in
set_option maxHeartbeats 2000000 in
theorem done_2 {v : Value} (ls : List Rg.Lt) (lot : Txt) (n : Int) (w : World) (S : SlX w v ls) (hl : Rg.chkE ls = 0) (hn : 0 ≤ n ∧ n ≤ 1048576) (hh : Rg.has ls lot = true) :
    Calls Tryz.prog 22 #[v, entV ⟨2, lot, n⟩] w (DoneP w (Rg.doneL ls ⟨2, lot, n⟩)) := by
  obtain ⟨hlen, hall, hs⟩ := (Rg.chkE_iff ls).1 hl
  obtain ⟨hp, -⟩ := (Rg.has_pos hs).1 hh
  have hD := doneL_k (ls := ls) (x := ⟨2, lot, n⟩) (by show (2 : Int) ≠ 0; decide) hh hp
  have HF := Lib.hid (fun W S => find_c ls lot W (v := v) S (by omega) hs)
  have HCl := Lib.hid (fun W S => clone_c ls W (v := v) S (by omega))
  have HW := Lib.hid (fun W => rows_c W)
  have HD := Lib.hid (fun W g (h : LotAt W g (Rg.pos ls lot * 7) ls[Rg.pos ls lot]) hz => rows2_c ls[Rg.pos ls lot] lot g (Rg.pos ls lot * 7) n W h hz (tame (hall _ (List.getElem_mem hp)).2) hn)
  have HS := Lib.hid S
  generalize Rg.doneL ls ⟨2, lot, n⟩ = D at *
  simp only at hD
  rw [hh] at HF
  have hat : ∀ (W : World) (g : Nat), RX W g 0 ls → g < W.heap.size → LotAt W g (Rg.pos ls lot * 7) ls[Rg.pos ls lot] := fun W g h hg => h.at hp hg
  generalize ls[Rg.pos ls lot] = a at *
  generalize Rg.changed a ⟨2, lot, n⟩ = R at *
  obtain ⟨y, c⟩ := R
  simp only at hD
  generalize Rg.pos ls lot = p at *
  have HDE := Lib.hid hD
  have HAT := Lib.hid hat
  have J := BX.new w #[.int .i64 2, .string ⟨lot.toArray⟩, .int .i64 n] 28
  clear hD hat hs hall hl hh S
  have hix : ∀ W, (Instr.index 100 rowsV (.int .i64 2)).run Tryz.prog W = .ok (.agg #[.string ⟨#[114, 101, 106, 101, 99, 116]⟩, .bool false, .func (.func 74) #[] #[]]) W := fun W => by
    simp [Instr.index, run_underlying Tryz.underlying100, asIntOf, part, Tryz.isAgg99, Tryz.sizeOf99]
  have hfd : ∀ W, (Instr.field 99 (.agg #[.string ⟨#[114, 101, 106, 101, 99, 116]⟩, .bool false, .func (.func 74) #[] #[]]) 2).run Tryz.prog W = .ok (.func (.func 74) #[] #[]) W := fun W => by
    simp [Instr.field, run_underlying Tryz.underlying99, asAgg, part, Tryz.isAgg97]
  go_enter Tryz.func22, Tryz.ntmps22
  go_wp2_with fail
  ((with_reducible refine (HF.out _ (HS.out.later J.w)).mono ?_); rintro e w1 ⟨rfl, hb1⟩)
  have J1 := J.later hb1
  have HJ1 := Lib.hid J1
  obtain ⟨d0, d1, d2⟩ := cell3 J1.c
  clear J J1 hb1
  go_wp2_with fail
  ((with_reducible refine (HCl.out _ (HS.out.later HJ1.out.w)).mono ?_); rintro e w2 ⟨v2, rfl, hC, hb2⟩)
  rcases hC with ⟨e0, -⟩ | ⟨h1, ⟨-, h2⟩ | ⟨g, cap, cur, rfl, e2, e3, e4, e5, e6, e7⟩⟩
  · rw [e0] at hp; exact absurd hp (Nat.not_lt_zero _)
  · omega
  have J2 := HJ1.out.later hb2
  obtain ⟨q0, q1, q2⟩ := cell3 J2.c
  have hg2 : g < w2.heap.size := (Array.getElem?_eq_some_iff.1 e3).1
  have HL2 := Lib.hid (HAT.out w2 g (RX.of_row e3 e7) hg2)
  have HR2 := Lib.hid (RX.of_row (ls := ls) e3 e7)
  have HZ2 := Lib.hid (show ∀ j, w2.frozen? ⟨g, j, none⟩ = false from fun j => by simp [World.frozen?, e3])
  have HJ2 := Lib.hid J2
  have HG := Lib.hid (show w.heap.size ≤ g from Nat.le_trans HJ1.out.w.size e2)
  clear d0 d1 d2 hb2 J2 e2 e3 e6 e7 h1
  go_wp2_with fail
  go_region_with (first
    | (go_at_call 46; (with_reducible refine (HW.out _).mono ?_); rintro e w3 ⟨rfl, hb3⟩; have hb3' : Below w2.heap.size w2 w3 := ⟨hb3.os, hb3.tape, hb3.output, hb3.size, hb3.block⟩; obtain ⟨s0, s1, s2⟩ := cell3 (HJ2.out.later hb3').c)
    | (go_at_call 74; (with_reducible refine (HD.out _ g ?_ ?_).mono ?_); exact HL2.out.later (by first | exact hb3' | exact hb3'.drew | exact hb3'.drew.drew); exact (fun j => (World.frozen?_of_block (hb3'.block g hg2)).trans (HZ2.out j)); rintro e w4 hd; obtain rfl := hd.1)
    | fail)
  all_goals
    have hR3 := HR2.out.later hb3' hg2
    have hBW : Below w.heap.size w w4 := (HJ2.out.w.trans (hb3'.mono HJ2.out.w.size)).trans (hd.2.1.mono HG.out)
    have hg4 : g < w4.heap.size := Nat.lt_of_lt_of_le hg2 (Nat.le_trans hb3'.size hd.2.1.size)
    have hDP := Lib.hid hd.2.2
    have hBW := Lib.hid hBW
    have hR3 := Lib.hid hR3
    clear hix hfd hb3 hb3' hd s0 s1 s2 q0 q1 q2
    by_cases hc : c = 0
    · have hP := Lib.hid (hDP.out hc)
      subst hc
      obtain rfl : D = (ls.set p y, 0) := by rw [HDE.out]; simp
      clear HDE hDP
      go_wp2
      go_ret2
      exact ⟨_, rfl, .inr ⟨g, 0, cap, by rw [List.length_set]; rfl, RX.put hR3.out hP.out, hg4⟩, hBW.out⟩
    · obtain rfl : D = ([], c) := by rw [HDE.out, if_pos hc]
      have y1 : (c != 0) = true := bne_iff_ne.2 hc
      clear HDE hDP hc
      go_wp2
      go_ret2
      exact ⟨_, rfl, .inl ⟨none, 0, rfl, rfl⟩, hBW.out⟩
set_option maxRecDepth 100000 in
set_option maxHeartbeats 2000000 in
theorem done_3 {v : Value} (ls : List Rg.Lt) (lot : Txt) (n : Int) (w : World) (S : SlX w v ls) (hl : Rg.chkE ls = 0) (hn : 0 ≤ n ∧ n ≤ 1048576) (hh : Rg.has ls lot = true) :
    Calls Tryz.prog 22 #[v, entV ⟨3, lot, n⟩] w (DoneP w (Rg.doneL ls ⟨3, lot, n⟩)) := by
  obtain ⟨hlen, hall, hs⟩ := (Rg.chkE_iff ls).1 hl
  obtain ⟨hp, -⟩ := (Rg.has_pos hs).1 hh
  have hD := doneL_k (ls := ls) (x := ⟨3, lot, n⟩) (by show (3 : Int) ≠ 0; decide) hh hp
  have HF := Lib.hid (fun W S => find_c ls lot W (v := v) S (by omega) hs)
  have HCl := Lib.hid (fun W S => clone_c ls W (v := v) S (by omega))
  have HW := Lib.hid (fun W => rows_c W)
  have HD := Lib.hid (fun W g (h : LotAt W g (Rg.pos ls lot * 7) ls[Rg.pos ls lot]) hz => rows3_c ls[Rg.pos ls lot] lot g (Rg.pos ls lot * 7) n W h hz (tame (hall _ (List.getElem_mem hp)).2) hn)
  have HS := Lib.hid S
  generalize Rg.doneL ls ⟨3, lot, n⟩ = D at *
  simp only at hD
  rw [hh] at HF
  have hat : ∀ (W : World) (g : Nat), RX W g 0 ls → g < W.heap.size → LotAt W g (Rg.pos ls lot * 7) ls[Rg.pos ls lot] := fun W g h hg => h.at hp hg
  generalize ls[Rg.pos ls lot] = a at *
  generalize Rg.changed a ⟨3, lot, n⟩ = R at *
  obtain ⟨y, c⟩ := R
  simp only at hD
  generalize Rg.pos ls lot = p at *
  have HDE := Lib.hid hD
  have HAT := Lib.hid hat
  have J := BX.new w #[.int .i64 3, .string ⟨lot.toArray⟩, .int .i64 n] 28
  clear hD hat hs hall hl hh S
  have hix : ∀ W, (Instr.index 100 rowsV (.int .i64 3)).run Tryz.prog W = .ok (.agg #[.string ⟨#[99, 111, 110, 99, 101, 100, 101]⟩, .bool false, .func (.func 75) #[] #[]]) W := fun W => by
    simp [Instr.index, run_underlying Tryz.underlying100, asIntOf, part, Tryz.isAgg99, Tryz.sizeOf99]
  have hfd : ∀ W, (Instr.field 99 (.agg #[.string ⟨#[99, 111, 110, 99, 101, 100, 101]⟩, .bool false, .func (.func 75) #[] #[]]) 2).run Tryz.prog W = .ok (.func (.func 75) #[] #[]) W := fun W => by
    simp [Instr.field, run_underlying Tryz.underlying99, asAgg, part, Tryz.isAgg97]
  go_enter Tryz.func22, Tryz.ntmps22
  go_wp2_with fail
  ((with_reducible refine (HF.out _ (HS.out.later J.w)).mono ?_); rintro e w1 ⟨rfl, hb1⟩)
  have J1 := J.later hb1
  have HJ1 := Lib.hid J1
  obtain ⟨d0, d1, d2⟩ := cell3 J1.c
  clear J J1 hb1
  go_wp2_with fail
  ((with_reducible refine (HCl.out _ (HS.out.later HJ1.out.w)).mono ?_); rintro e w2 ⟨v2, rfl, hC, hb2⟩)
  rcases hC with ⟨e0, -⟩ | ⟨h1, ⟨-, h2⟩ | ⟨g, cap, cur, rfl, e2, e3, e4, e5, e6, e7⟩⟩
  · rw [e0] at hp; exact absurd hp (Nat.not_lt_zero _)
  · omega
  have J2 := HJ1.out.later hb2
  obtain ⟨q0, q1, q2⟩ := cell3 J2.c
  have hg2 : g < w2.heap.size := (Array.getElem?_eq_some_iff.1 e3).1
  have HL2 := Lib.hid (HAT.out w2 g (RX.of_row e3 e7) hg2)
  have HR2 := Lib.hid (RX.of_row (ls := ls) e3 e7)
  have HZ2 := Lib.hid (show ∀ j, w2.frozen? ⟨g, j, none⟩ = false from fun j => by simp [World.frozen?, e3])
  have HJ2 := Lib.hid J2
  have HG := Lib.hid (show w.heap.size ≤ g from Nat.le_trans HJ1.out.w.size e2)
  clear d0 d1 d2 hb2 J2 e2 e3 e6 e7 h1
  go_wp2_with fail
  go_region_with (first
    | (go_at_call 46; (with_reducible refine (HW.out _).mono ?_); rintro e w3 ⟨rfl, hb3⟩; have hb3' : Below w2.heap.size w2 w3 := ⟨hb3.os, hb3.tape, hb3.output, hb3.size, hb3.block⟩; obtain ⟨s0, s1, s2⟩ := cell3 (HJ2.out.later hb3').c)
    | (go_at_call 75; (with_reducible refine (HD.out _ g ?_ ?_).mono ?_); exact HL2.out.later (by first | exact hb3' | exact hb3'.drew | exact hb3'.drew.drew); exact (fun j => (World.frozen?_of_block (hb3'.block g hg2)).trans (HZ2.out j)); rintro e w4 hd; obtain rfl := hd.1)
    | fail)
  all_goals
    have hR3 := HR2.out.later hb3' hg2
    have hBW : Below w.heap.size w w4 := (HJ2.out.w.trans (hb3'.mono HJ2.out.w.size)).trans (hd.2.1.mono HG.out)
    have hg4 : g < w4.heap.size := Nat.lt_of_lt_of_le hg2 (Nat.le_trans hb3'.size hd.2.1.size)
    have hDP := Lib.hid hd.2.2
    have hBW := Lib.hid hBW
    have hR3 := Lib.hid hR3
    clear hix hfd hb3 hb3' hd s0 s1 s2 q0 q1 q2
    by_cases hc : c = 0
    · have hP := Lib.hid (hDP.out hc)
      subst hc
      obtain rfl : D = (ls.set p y, 0) := by rw [HDE.out]; simp
      clear HDE hDP
      go_wp2
      go_ret2
      exact ⟨_, rfl, .inr ⟨g, 0, cap, by rw [List.length_set]; rfl, RX.put hR3.out hP.out, hg4⟩, hBW.out⟩
    · obtain rfl : D = ([], c) := by rw [HDE.out, if_pos hc]
      have y1 : (c != 0) = true := bne_iff_ne.2 hc
      clear HDE hDP hc
      go_wp2
      go_ret2
      exact ⟨_, rfl, .inl ⟨none, 0, rfl, rfl⟩, hBW.out⟩
end Go.Proofs.Wk
/- REGISTERS OF LOTS: done, kinds 4 to 6. -/
namespace Go.Proofs.Wk
open Go.RowKit Mt

set_option maxRecDepth 100000 in
set_option maxHeartbeats 2000000 in
theorem done_4 {v : Value} (ls : List Rg.Lt) (lot : Txt) (n : Int) (w : World) (S : SlX w v ls) (hl : Rg.chkE ls = 0) (hn : 0 ≤ n ∧ n ≤ 1048576) (hh : Rg.has ls lot = true) :
    Calls Tryz.prog 22 #[v, entV ⟨4, lot, n⟩] w (DoneP w (Rg.doneL ls ⟨4, lot, n⟩)) := by
  obtain ⟨hlen, hall, hs⟩ := (Rg.chkE_iff ls).1 hl
  obtain ⟨hp, -⟩ := (Rg.has_pos hs).1 hh
  have hD := doneL_k (ls := ls) (x := ⟨4, lot, n⟩) (by show (4 : Int) ≠ 0; decide) hh hp
  have HF := Lib.hid (fun W S => find_c ls lot W (v := v) S (by omega) hs)
  have HCl := Lib.hid (fun W S => clone_c ls W (v := v) S (by omega))
  have HW := Lib.hid (fun W => rows_c W)
  have HD := Lib.hid (fun W g (h : LotAt W g (Rg.pos ls lot * 7) ls[Rg.pos ls lot]) hz => rows4_c ls[Rg.pos ls lot] lot g (Rg.pos ls lot * 7) n W h hz (tame (hall _ (List.getElem_mem hp)).2) hn)
  have HS := Lib.hid S
  generalize Rg.doneL ls ⟨4, lot, n⟩ = D at *
  simp only at hD
  rw [hh] at HF
  have hat : ∀ (W : World) (g : Nat), RX W g 0 ls → g < W.heap.size → LotAt W g (Rg.pos ls lot * 7) ls[Rg.pos ls lot] := fun W g h hg => h.at hp hg
  generalize ls[Rg.pos ls lot] = a at *
  generalize Rg.changed a ⟨4, lot, n⟩ = R at *
  obtain ⟨y, c⟩ := R
  simp only at hD
  generalize Rg.pos ls lot = p at *
  have HDE := Lib.hid hD
  have HAT := Lib.hid hat
  have J := BX.new w #[.int .i64 4, .string ⟨lot.toArray⟩, .int .i64 n] 28
  clear hD hat hs hall hl hh S
  have hix : ∀ W, (Instr.index 100 rowsV (.int .i64 4)).run Tryz.prog W = .ok (.agg #[.string ⟨#[115, 99, 114, 97, 112]⟩, .bool false, .func (.func 77) #[] #[]]) W := fun W => by
    simp [Instr.index, run_underlying Tryz.underlying100, asIntOf, part, Tryz.isAgg99, Tryz.sizeOf99]
  have hfd : ∀ W, (Instr.field 99 (.agg #[.string ⟨#[115, 99, 114, 97, 112]⟩, .bool false, .func (.func 77) #[] #[]]) 2).run Tryz.prog W = .ok (.func (.func 77) #[] #[]) W := fun W => by
    simp [Instr.field, run_underlying Tryz.underlying99, asAgg, part, Tryz.isAgg97]
  go_enter Tryz.func22, Tryz.ntmps22
  go_wp2_with fail
  ((with_reducible refine (HF.out _ (HS.out.later J.w)).mono ?_); rintro e w1 ⟨rfl, hb1⟩)
  have J1 := J.later hb1
  have HJ1 := Lib.hid J1
  obtain ⟨d0, d1, d2⟩ := cell3 J1.c
  clear J J1 hb1
  go_wp2_with fail
  ((with_reducible refine (HCl.out _ (HS.out.later HJ1.out.w)).mono ?_); rintro e w2 ⟨v2, rfl, hC, hb2⟩)
  rcases hC with ⟨e0, -⟩ | ⟨h1, ⟨-, h2⟩ | ⟨g, cap, cur, rfl, e2, e3, e4, e5, e6, e7⟩⟩
  · rw [e0] at hp; exact absurd hp (Nat.not_lt_zero _)
  · omega
  have J2 := HJ1.out.later hb2
  obtain ⟨q0, q1, q2⟩ := cell3 J2.c
  have hg2 : g < w2.heap.size := (Array.getElem?_eq_some_iff.1 e3).1
  have HL2 := Lib.hid (HAT.out w2 g (RX.of_row e3 e7) hg2)
  have HR2 := Lib.hid (RX.of_row (ls := ls) e3 e7)
  have HZ2 := Lib.hid (show ∀ j, w2.frozen? ⟨g, j, none⟩ = false from fun j => by simp [World.frozen?, e3])
  have HJ2 := Lib.hid J2
  have HG := Lib.hid (show w.heap.size ≤ g from Nat.le_trans HJ1.out.w.size e2)
  clear d0 d1 d2 hb2 J2 e2 e3 e6 e7 h1
  go_wp2_with fail
  go_region_with (first
    | (go_at_call 46; (with_reducible refine (HW.out _).mono ?_); rintro e w3 ⟨rfl, hb3⟩; have hb3' : Below w2.heap.size w2 w3 := ⟨hb3.os, hb3.tape, hb3.output, hb3.size, hb3.block⟩; obtain ⟨s0, s1, s2⟩ := cell3 (HJ2.out.later hb3').c)
    | (go_at_call 77; (with_reducible refine (HD.out _ g ?_ ?_).mono ?_); exact HL2.out.later (by first | exact hb3' | exact hb3'.drew | exact hb3'.drew.drew); exact (fun j => (World.frozen?_of_block (hb3'.block g hg2)).trans (HZ2.out j)); rintro e w4 hd; obtain rfl := hd.1)
    | fail)
  all_goals
    have hR3 := HR2.out.later hb3' hg2
    have hBW : Below w.heap.size w w4 := (HJ2.out.w.trans (hb3'.mono HJ2.out.w.size)).trans (hd.2.1.mono HG.out)
    have hg4 : g < w4.heap.size := Nat.lt_of_lt_of_le hg2 (Nat.le_trans hb3'.size hd.2.1.size)
    have hDP := Lib.hid hd.2.2
    have hBW := Lib.hid hBW
    have hR3 := Lib.hid hR3
    clear hix hfd hb3 hb3' hd s0 s1 s2 q0 q1 q2
    by_cases hc : c = 0
    · have hP := Lib.hid (hDP.out hc)
      subst hc
      obtain rfl : D = (ls.set p y, 0) := by rw [HDE.out]; simp
      clear HDE hDP
      go_wp2
      go_ret2
      exact ⟨_, rfl, .inr ⟨g, 0, cap, by rw [List.length_set]; rfl, RX.put hR3.out hP.out, hg4⟩, hBW.out⟩
    · obtain rfl : D = ([], c) := by rw [HDE.out, if_pos hc]
      have y1 : (c != 0) = true := bne_iff_ne.2 hc
      clear HDE hDP hc
      go_wp2
      go_ret2
      exact ⟨_, rfl, .inl ⟨none, 0, rfl, rfl⟩, hBW.out⟩
set_option maxRecDepth 100000 in
set_option maxHeartbeats 2000000 in
theorem done_5 {v : Value} (ls : List Rg.Lt) (lot : Txt) (n : Int) (w : World) (S : SlX w v ls) (hl : Rg.chkE ls = 0) (hn : 0 ≤ n ∧ n ≤ 1048576) (hh : Rg.has ls lot = true) :
    Calls Tryz.prog 22 #[v, entV ⟨5, lot, n⟩] w (DoneP w (Rg.doneL ls ⟨5, lot, n⟩)) := by
  obtain ⟨hlen, hall, hs⟩ := (Rg.chkE_iff ls).1 hl
  obtain ⟨hp, -⟩ := (Rg.has_pos hs).1 hh
  have hD := doneL_k (ls := ls) (x := ⟨5, lot, n⟩) (by show (5 : Int) ≠ 0; decide) hh hp
  have HF := Lib.hid (fun W S => find_c ls lot W (v := v) S (by omega) hs)
  have HCl := Lib.hid (fun W S => clone_c ls W (v := v) S (by omega))
  have HW := Lib.hid (fun W => rows_c W)
  have HD := Lib.hid (fun W g (h : LotAt W g (Rg.pos ls lot * 7) ls[Rg.pos ls lot]) hz => rows5_c ls[Rg.pos ls lot] lot g (Rg.pos ls lot * 7) n W h hz (tame (hall _ (List.getElem_mem hp)).2) hn)
  have HS := Lib.hid S
  generalize Rg.doneL ls ⟨5, lot, n⟩ = D at *
  simp only at hD
  rw [hh] at HF
  have hat : ∀ (W : World) (g : Nat), RX W g 0 ls → g < W.heap.size → LotAt W g (Rg.pos ls lot * 7) ls[Rg.pos ls lot] := fun W g h hg => h.at hp hg
  generalize ls[Rg.pos ls lot] = a at *
  generalize Rg.changed a ⟨5, lot, n⟩ = R at *
  obtain ⟨y, c⟩ := R
  simp only at hD
  generalize Rg.pos ls lot = p at *
  have HDE := Lib.hid hD
  have HAT := Lib.hid hat
  have J := BX.new w #[.int .i64 5, .string ⟨lot.toArray⟩, .int .i64 n] 28
  clear hD hat hs hall hl hh S
  have hix : ∀ W, (Instr.index 100 rowsV (.int .i64 5)).run Tryz.prog W = .ok (.agg #[.string ⟨#[99, 108, 111, 115, 101]⟩, .bool true, .func (.func 78) #[] #[]]) W := fun W => by
    simp [Instr.index, run_underlying Tryz.underlying100, asIntOf, part, Tryz.isAgg99, Tryz.sizeOf99]
  have hfd : ∀ W, (Instr.field 99 (.agg #[.string ⟨#[99, 108, 111, 115, 101]⟩, .bool true, .func (.func 78) #[] #[]]) 2).run Tryz.prog W = .ok (.func (.func 78) #[] #[]) W := fun W => by
    simp [Instr.field, run_underlying Tryz.underlying99, asAgg, part, Tryz.isAgg97]
  go_enter Tryz.func22, Tryz.ntmps22
  go_wp2_with fail
  ((with_reducible refine (HF.out _ (HS.out.later J.w)).mono ?_); rintro e w1 ⟨rfl, hb1⟩)
  have J1 := J.later hb1
  have HJ1 := Lib.hid J1
  obtain ⟨d0, d1, d2⟩ := cell3 J1.c
  clear J J1 hb1
  go_wp2_with fail
  ((with_reducible refine (HCl.out _ (HS.out.later HJ1.out.w)).mono ?_); rintro e w2 ⟨v2, rfl, hC, hb2⟩)
  rcases hC with ⟨e0, -⟩ | ⟨h1, ⟨-, h2⟩ | ⟨g, cap, cur, rfl, e2, e3, e4, e5, e6, e7⟩⟩
  · rw [e0] at hp; exact absurd hp (Nat.not_lt_zero _)
  · omega
  have J2 := HJ1.out.later hb2
  obtain ⟨q0, q1, q2⟩ := cell3 J2.c
  have hg2 : g < w2.heap.size := (Array.getElem?_eq_some_iff.1 e3).1
  have HL2 := Lib.hid (HAT.out w2 g (RX.of_row e3 e7) hg2)
  have HR2 := Lib.hid (RX.of_row (ls := ls) e3 e7)
  have HZ2 := Lib.hid (show ∀ j, w2.frozen? ⟨g, j, none⟩ = false from fun j => by simp [World.frozen?, e3])
  have HJ2 := Lib.hid J2
  have HG := Lib.hid (show w.heap.size ≤ g from Nat.le_trans HJ1.out.w.size e2)
  clear d0 d1 d2 hb2 J2 e2 e3 e6 e7 h1
  go_wp2_with fail
  go_region_with (first
    | (go_at_call 46; (with_reducible refine (HW.out _).mono ?_); rintro e w3 ⟨rfl, hb3⟩; have hb3' : Below w2.heap.size w2 w3 := ⟨hb3.os, hb3.tape, hb3.output, hb3.size, hb3.block⟩; obtain ⟨s0, s1, s2⟩ := cell3 (HJ2.out.later hb3').c)
    | (go_at_call 78; (with_reducible refine (HD.out _ g ?_ ?_).mono ?_); exact HL2.out.later (by first | exact hb3' | exact hb3'.drew | exact hb3'.drew.drew); exact (fun j => (World.frozen?_of_block (hb3'.block g hg2)).trans (HZ2.out j)); rintro e w4 hd; obtain rfl := hd.1)
    | fail)
  all_goals
    have hR3 := HR2.out.later hb3' hg2
    have hBW : Below w.heap.size w w4 := (HJ2.out.w.trans (hb3'.mono HJ2.out.w.size)).trans (hd.2.1.mono HG.out)
    have hg4 : g < w4.heap.size := Nat.lt_of_lt_of_le hg2 (Nat.le_trans hb3'.size hd.2.1.size)
    have hDP := Lib.hid hd.2.2
    have hBW := Lib.hid hBW
    have hR3 := Lib.hid hR3
    clear hix hfd hb3 hb3' hd s0 s1 s2 q0 q1 q2
    by_cases hc : c = 0
    · have hP := Lib.hid (hDP.out hc)
      subst hc
      obtain rfl : D = (ls.set p y, 0) := by rw [HDE.out]; simp
      clear HDE hDP
      go_wp2
      go_ret2
      exact ⟨_, rfl, .inr ⟨g, 0, cap, by rw [List.length_set]; rfl, RX.put hR3.out hP.out, hg4⟩, hBW.out⟩
    · obtain rfl : D = ([], c) := by rw [HDE.out, if_pos hc]
      have y1 : (c != 0) = true := bne_iff_ne.2 hc
      clear HDE hDP hc
      go_wp2
      go_ret2
      exact ⟨_, rfl, .inl ⟨none, 0, rfl, rfl⟩, hBW.out⟩
set_option maxRecDepth 100000 in
set_option maxHeartbeats 2000000 in
theorem done_6 {v : Value} (ls : List Rg.Lt) (lot : Txt) (n : Int) (w : World) (S : SlX w v ls) (hl : Rg.chkE ls = 0) (hn : 0 ≤ n ∧ n ≤ 1048576) (hh : Rg.has ls lot = true) :
    Calls Tryz.prog 22 #[v, entV ⟨6, lot, n⟩] w (DoneP w (Rg.doneL ls ⟨6, lot, n⟩)) := by
  obtain ⟨hlen, hall, hs⟩ := (Rg.chkE_iff ls).1 hl
  obtain ⟨hp, -⟩ := (Rg.has_pos hs).1 hh
  have hD := doneL_k (ls := ls) (x := ⟨6, lot, n⟩) (by show (6 : Int) ≠ 0; decide) hh hp
  have HF := Lib.hid (fun W S => find_c ls lot W (v := v) S (by omega) hs)
  have HCl := Lib.hid (fun W S => clone_c ls W (v := v) S (by omega))
  have HW := Lib.hid (fun W => rows_c W)
  have HD := Lib.hid (fun W g (h : LotAt W g (Rg.pos ls lot * 7) ls[Rg.pos ls lot]) hz => rows6_c ls[Rg.pos ls lot] lot g (Rg.pos ls lot * 7) n W h hz (tame (hall _ (List.getElem_mem hp)).2) hn)
  have HS := Lib.hid S
  generalize Rg.doneL ls ⟨6, lot, n⟩ = D at *
  simp only at hD
  rw [hh] at HF
  have hat : ∀ (W : World) (g : Nat), RX W g 0 ls → g < W.heap.size → LotAt W g (Rg.pos ls lot * 7) ls[Rg.pos ls lot] := fun W g h hg => h.at hp hg
  generalize ls[Rg.pos ls lot] = a at *
  generalize Rg.changed a ⟨6, lot, n⟩ = R at *
  obtain ⟨y, c⟩ := R
  simp only at hD
  generalize Rg.pos ls lot = p at *
  have HDE := Lib.hid hD
  have HAT := Lib.hid hat
  have J := BX.new w #[.int .i64 6, .string ⟨lot.toArray⟩, .int .i64 n] 28
  clear hD hat hs hall hl hh S
  have hix : ∀ W, (Instr.index 100 rowsV (.int .i64 6)).run Tryz.prog W = .ok (.agg #[.string ⟨#[115, 104, 105, 112]⟩, .bool true, .func (.func 81) #[] #[]]) W := fun W => by
    simp [Instr.index, run_underlying Tryz.underlying100, asIntOf, part, Tryz.isAgg99, Tryz.sizeOf99]
  have hfd : ∀ W, (Instr.field 99 (.agg #[.string ⟨#[115, 104, 105, 112]⟩, .bool true, .func (.func 81) #[] #[]]) 2).run Tryz.prog W = .ok (.func (.func 81) #[] #[]) W := fun W => by
    simp [Instr.field, run_underlying Tryz.underlying99, asAgg, part, Tryz.isAgg97]
  go_enter Tryz.func22, Tryz.ntmps22
  go_wp2_with fail
  ((with_reducible refine (HF.out _ (HS.out.later J.w)).mono ?_); rintro e w1 ⟨rfl, hb1⟩)
  have J1 := J.later hb1
  have HJ1 := Lib.hid J1
  obtain ⟨d0, d1, d2⟩ := cell3 J1.c
  clear J J1 hb1
  go_wp2_with fail
  ((with_reducible refine (HCl.out _ (HS.out.later HJ1.out.w)).mono ?_); rintro e w2 ⟨v2, rfl, hC, hb2⟩)
  rcases hC with ⟨e0, -⟩ | ⟨h1, ⟨-, h2⟩ | ⟨g, cap, cur, rfl, e2, e3, e4, e5, e6, e7⟩⟩
  · rw [e0] at hp; exact absurd hp (Nat.not_lt_zero _)
  · omega
  have J2 := HJ1.out.later hb2
  obtain ⟨q0, q1, q2⟩ := cell3 J2.c
  have hg2 : g < w2.heap.size := (Array.getElem?_eq_some_iff.1 e3).1
  have HL2 := Lib.hid (HAT.out w2 g (RX.of_row e3 e7) hg2)
  have HR2 := Lib.hid (RX.of_row (ls := ls) e3 e7)
  have HZ2 := Lib.hid (show ∀ j, w2.frozen? ⟨g, j, none⟩ = false from fun j => by simp [World.frozen?, e3])
  have HJ2 := Lib.hid J2
  have HG := Lib.hid (show w.heap.size ≤ g from Nat.le_trans HJ1.out.w.size e2)
  clear d0 d1 d2 hb2 J2 e2 e3 e6 e7 h1
  go_wp2_with fail
  go_region_with (first
    | (go_at_call 46; (with_reducible refine (HW.out _).mono ?_); rintro e w3 ⟨rfl, hb3⟩; have hb3' : Below w2.heap.size w2 w3 := ⟨hb3.os, hb3.tape, hb3.output, hb3.size, hb3.block⟩; obtain ⟨s0, s1, s2⟩ := cell3 (HJ2.out.later hb3').c)
    | (go_at_call 81; (with_reducible refine (HD.out _ g ?_ ?_).mono ?_); exact HL2.out.later (by first | exact hb3' | exact hb3'.drew | exact hb3'.drew.drew); exact (fun j => (World.frozen?_of_block (hb3'.block g hg2)).trans (HZ2.out j)); rintro e w4 hd; obtain rfl := hd.1)
    | fail)
  all_goals
    have hR3 := HR2.out.later hb3' hg2
    have hBW : Below w.heap.size w w4 := (HJ2.out.w.trans (hb3'.mono HJ2.out.w.size)).trans (hd.2.1.mono HG.out)
    have hg4 : g < w4.heap.size := Nat.lt_of_lt_of_le hg2 (Nat.le_trans hb3'.size hd.2.1.size)
    have hDP := Lib.hid hd.2.2
    have hBW := Lib.hid hBW
    have hR3 := Lib.hid hR3
    clear hix hfd hb3 hb3' hd s0 s1 s2 q0 q1 q2
    by_cases hc : c = 0
    · have hP := Lib.hid (hDP.out hc)
      subst hc
      obtain rfl : D = (ls.set p y, 0) := by rw [HDE.out]; simp
      clear HDE hDP
      go_wp2
      go_ret2
      exact ⟨_, rfl, .inr ⟨g, 0, cap, by rw [List.length_set]; rfl, RX.put hR3.out hP.out, hg4⟩, hBW.out⟩
    · obtain rfl : D = ([], c) := by rw [HDE.out, if_pos hc]
      have y1 : (c != 0) = true := bne_iff_ne.2 hc
      clear HDE hDP hc
      go_wp2
      go_ret2
      exact ⟨_, rfl, .inl ⟨none, 0, rfl, rfl⟩, hBW.out⟩
end Go.Proofs.Wk
