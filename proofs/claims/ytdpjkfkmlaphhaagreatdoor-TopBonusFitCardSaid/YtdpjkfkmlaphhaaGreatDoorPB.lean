/- POSITION, FOR THE WALKS: points in space, their checks. -/
import Derived.Test.YtdpjkfkmlaphhaaGreatDoorKB
import Derived.Test.YtdpjkfkmlaphhaaGreatDoorRes
import Derived.Test.YtdpjkfkmlaphhaaGreatDoorPA
namespace Go.Proofs.Wk
open Go.RowKit Mt Po

theorem _root_.Go.RowKit.Below.nx {w w1 w2 : World} (h : Below w.heap.size w w1) (k : Below w1.heap.size w1 w2) : Below w.heap.size w w2 := h.trans (k.mono h.size)
theorem below_al (w : World) (o : Obj) : Below w.heap.size w (w.alloc o) := (Below.refl _ _).alloc (Nat.le_refl _) _
theorem keepD {w w' : World} {g : Nat} {o : Obj} (h : w.heap[g]? = some o) (hb : Below w.heap.size w w') : w'.heap[g]? = some o := (hb.block _ (Array.getElem?_eq_some_iff.1 h).1).trans h
theorem c3row {w : World} {b : Nat} {u0 u1 u2 : Value} {T : TypeId} {fr : Nat × Nat} (h : w.heap[b]? = some (.cells #[u0, u1, u2] T fr)) :
    w.cell? ⟨b, 0, none⟩ = some u0 ∧ w.cell? ⟨b, 1, none⟩ = some u1 ∧ w.cell? ⟨b, 2, none⟩ = some u2 :=
  ⟨by rw [cell_of_row _ _ _ _ _ _ h]; rfl, by rw [cell_of_row _ _ _ _ _ _ h]; rfl, by rw [cell_of_row _ _ _ _ _ _ h]; rfl⟩
theorem within_c (n : Int) (w : World) : Calls Tryz.prog 246 #[.int .i64 n] w (Pur w (.bool (inC n))) := by
  unfold inC
  rcases (by omega : n < -100000 ∨ (-100000 ≤ n ∧ n ≤ 100000) ∨ 100000 < n) with h | ⟨h, h'⟩ | h
  · rw [decide_eq_false (by omega)]
    go_enter Tryz.func246, Tryz.ntmps246; go_wp2; go_ret; refine ⟨ret_bool ?_, rfl⟩; first | rfl | (simp; done) | (simp; omega)
  · rw [decide_eq_true (by omega)]
    go_enter Tryz.func246, Tryz.ntmps246; go_wp2; go_ret; refine ⟨ret_bool ?_, rfl⟩; first | rfl | (simp; done) | (simp; omega)
  · rw [decide_eq_false (by omega)]
    go_enter Tryz.func246, Tryz.ntmps246; go_wp2; go_ret; refine ⟨ret_bool ?_, rfl⟩; first | rfl | (simp; done) | (simp; omega)
theorem rin_c (n : Int) (w : World) : Calls Tryz.prog 39 #[.int .i64 n] w (Pur w (.bool (inC n))) := by
  unfold inC
  rcases (by omega : n < -100000 ∨ (-100000 ≤ n ∧ n ≤ 100000) ∨ 100000 < n) with h | ⟨h, h'⟩ | h
  · rw [decide_eq_false (by omega)]
    go_enter Tryz.func39, Tryz.ntmps39; go_wp2; go_ret; refine ⟨ret_bool ?_, rfl⟩; first | rfl | (simp; done) | (simp; omega)
  · rw [decide_eq_true (by omega)]
    go_enter Tryz.func39, Tryz.ntmps39; go_wp2; go_ret; refine ⟨ret_bool ?_, rfl⟩; first | rfl | (simp; done) | (simp; omega)
  · rw [decide_eq_false (by omega)]
    go_enter Tryz.func39, Tryz.ntmps39; go_wp2; go_ret; refine ⟨ret_bool ?_, rfl⟩; first | rfl | (simp; done) | (simp; omega)
abbrev spC (p : Sp) : List Value := [.int .i64 p.x, .int .i64 p.y, .int .i64 p.z]
abbrev spV (p : Sp) : Value := .agg #[.int .i64 p.x, .int .i64 p.y, .int .i64 p.z]
instance : Row Sp where
  enc := spC
  k := 3
  len _ := rfl
  pos := by decide
  one a u hu := by
    simp only [spC, List.mem_cons, List.not_mem_nil, or_false] at hu
    rcases hu with rfl | rfl | rfl <;> rfl
theorem RX.sp {w : World} {b off : Nat} {ls : List Sp} (h : RX w b off ls) {i : Nat} (hi : i < ls.length) :
    w.cell? ⟨b, off + i * 3, none⟩ = some (.int .i64 (Po.at_ ls i).x) ∧ w.cell? ⟨b, off + i * 3 + 1, none⟩ = some (.int .i64 (Po.at_ ls i).y) ∧ w.cell? ⟨b, off + i * 3 + 2, none⟩ = some (.int .i64 (Po.at_ ls i).z) := by
  rw [Po.at_get hi]
  exact ⟨h i hi 0 (by decide), h i hi 1 (by decide), h i hi 2 (by decide)⟩
/-- A point in space that lies at an address. -/
structure SpAt (w : World) (b o : Nat) (p : Sp) : Prop where
  c0 : w.cell? ⟨b, o, none⟩ = some (.int .i64 p.x)
  c1 : w.cell? ⟨b, o + 1, none⟩ = some (.int .i64 p.y)
  c2 : w.cell? ⟨b, o + 2, none⟩ = some (.int .i64 p.z)
theorem SpAt.lt {w : World} {b o : Nat} {p : Sp} (h : SpAt w b o p) : b < w.heap.size := World.block_lt_of_cell? w _ h.c0
theorem SpAt.later {w w' : World} {b o : Nat} {p : Sp} (h : SpAt w b o p) (hb : Below w.heap.size w w') : SpAt w' b o p :=
  ⟨by rw [hb.cell (p := ⟨b, o, none⟩) h.lt]; exact h.c0, by rw [hb.cell (p := ⟨b, o + 1, none⟩) h.lt]; exact h.c1, by rw [hb.cell (p := ⟨b, o + 2, none⟩) h.lt]; exact h.c2⟩
theorem SpAt.drew {w : World} {b o : Nat} {p : Sp} (h : SpAt w b o p) : SpAt w.drew b o p := ⟨h.c0, h.c1, h.c2⟩
theorem SpAt.new (w : World) (p : Sp) (t : TypeId) : SpAt (w.alloc (.cells #[.int .i64 p.x, .int .i64 p.y, .int .i64 p.z] t)) w.heap.size 0 p :=
  ⟨by rw [cell_of_row _ _ _ _ _ _ (heap_alloc_new w _)]; rfl, by rw [cell_of_row _ _ _ _ _ _ (heap_alloc_new w _)]; rfl, by rw [cell_of_row _ _ _ _ _ _ (heap_alloc_new w _)]; rfl⟩
theorem RX.spAt {w : World} {b off : Nat} {ls : List Sp} (h : RX w b off ls) {i : Nat} (hi : i < ls.length) : SpAt w b (off + i * 3) (Po.at_ ls i) := by
  obtain ⟨h0, h1, h2⟩ := h.sp hi
  exact ⟨h0, h1, h2⟩
theorem inP_iff {p : Sp} : inP p = true ↔ InP p := by unfold inP; simp
def allS (ls : List Sp) : Int := if ls.all inP = true then 0 else 2
set_option maxRecDepth 100000 in
set_option maxHeartbeats 1000000 in
theorem high_c (p : Sp) (w : World) : Calls Tryz.prog 206 #[spV p] w (Ret w (.bool (inP p))) := by
  rw [inP_eq]
  obtain ⟨x, y, z⟩ := p
  have HX := Lib.hid (fun W => within_c x W)
  have HY := Lib.hid (fun W => within_c y W)
  have HZ := Lib.hid (fun W => within_c z W)
  have hb := below_al w (.cells #[.int .i64 x, .int .i64 y, .int .i64 z] 23)
  generalize inC x = bx at *
  generalize inC y = by_ at *
  generalize inC z = bz at *
  cases bx with
  | false =>
    go_enter Tryz.func206, Tryz.ntmps206
    go_wp2_with fail
    ((with_reducible refine (HX.out _).mono ?_); rintro e w' ⟨rfl, rfl⟩)
    go_wp2
    go_ret
    exact ⟨rfl, hb⟩
  | true =>
    cases by_ with
    | false =>
      go_enter Tryz.func206, Tryz.ntmps206
      go_wp2_with fail
      ((with_reducible refine (HX.out _).mono ?_); rintro e w' ⟨rfl, rfl⟩)
      go_wp2_with fail
      ((with_reducible refine (HY.out _).mono ?_); rintro e w' ⟨rfl, rfl⟩)
      go_wp2
      go_ret
      exact ⟨rfl, hb⟩
    | true =>
      go_enter Tryz.func206, Tryz.ntmps206
      go_wp2_with fail
      ((with_reducible refine (HX.out _).mono ?_); rintro e w' ⟨rfl, rfl⟩)
      go_wp2_with fail
      ((with_reducible refine (HY.out _).mono ?_); rintro e w' ⟨rfl, rfl⟩)
      go_wp2_with fail
      ((with_reducible refine (HZ.out _).mono ?_); rintro e w' ⟨rfl, rfl⟩)
      go_wp2
      go_ret
      exact ⟨ret_bool (by simp), hb⟩
set_option maxRecDepth 100000 in
set_option maxHeartbeats 1000000 in
theorem rRightS_p (p : Sp) (w : World) : Calls Tryz.prog 8 #[spV p] w (Ret w (.bool (inP p))) := by
  rw [inP_eq]
  obtain ⟨x, y, z⟩ := p
  have HX := Lib.hid (fun W => rin_c x W)
  have HY := Lib.hid (fun W => rin_c y W)
  have HZ := Lib.hid (fun W => rin_c z W)
  have hb := below_al w (.cells #[.int .i64 x, .int .i64 y, .int .i64 z] 23)
  generalize inC x = bx at *
  generalize inC y = by_ at *
  generalize inC z = bz at *
  cases bx with
  | false =>
    go_enter Tryz.func8, Tryz.ntmps8
    go_wp2_with fail
    ((with_reducible refine (HX.out _).mono ?_); rintro e w' ⟨rfl, rfl⟩)
    go_wp2
    go_ret
    exact ⟨rfl, hb⟩
  | true =>
    cases by_ with
    | false =>
      go_enter Tryz.func8, Tryz.ntmps8
      go_wp2_with fail
      ((with_reducible refine (HX.out _).mono ?_); rintro e w' ⟨rfl, rfl⟩)
      go_wp2_with fail
      ((with_reducible refine (HY.out _).mono ?_); rintro e w' ⟨rfl, rfl⟩)
      go_wp2
      go_ret
      exact ⟨rfl, hb⟩
    | true =>
      go_enter Tryz.func8, Tryz.ntmps8
      go_wp2_with fail
      ((with_reducible refine (HX.out _).mono ?_); rintro e w' ⟨rfl, rfl⟩)
      go_wp2_with fail
      ((with_reducible refine (HY.out _).mono ?_); rintro e w' ⟨rfl, rfl⟩)
      go_wp2_with fail
      ((with_reducible refine (HZ.out _).mono ?_); rintro e w' ⟨rfl, rfl⟩)
      go_wp2
      go_ret
      exact ⟨ret_bool (by simp), hb⟩
theorem allS_bad {ls : List Sp} {i : Nat} (hi : i < ls.length) (h : inP (Po.at_ ls i) = false) : allS ls = 2 := by
  unfold allS
  rw [if_neg]
  intro q
  have := List.all_eq_true.1 q _ (Po.at_mem hi)
  rw [h] at this; cases this
theorem allS_step {ls : List Sp} {i : Nat} (hi : i < ls.length) (h : (ls.take i).all inP = true) (h2 : inP (Po.at_ ls i) = true) : (ls.take (i + 1)).all inP = true := by
  rw [List.take_succ_eq_append_getElem hi, List.all_append, h, ← Po.at_get hi]
  simp [h2]
set_option maxRecDepth 100000 in
set_option maxHeartbeats 1000000 in
theorem vallS_c {v : Value} (ls : List Sp) (w : World) (S : SlX w v ls) (hln : ls.length ≤ 140737488355328) :
    Calls Tryz.prog 245 #[.func (.func 206) #[] #[], v] w (Ret w (.int .i64 (allS ls))) := by
  refine S.cases _ ?_ ?_
  · rintro a cap rfl rfl
    go_enter Tryz.func245, Tryz.ntmps245
    go_wp2_with fail
    refine wp_loop_rounds 1 ?_
    rw [rounds_succ]
    go_wp2
    go_ret
    exact ⟨rfl, Below.refl _ _⟩
  rintro b off cap rfl hp hR hb
  have HBAD := Lib.hid (fun i hi => allS_bad (ls := ls) (i := i) hi)
  have HOK := Lib.hid (show ls.all inP = true → allS ls = 0 from fun h => by unfold allS; rw [if_pos h])
  have HR := Lib.hid hR
  generalize allS ls = E at *
  clear hR
  go_enter Tryz.func245, Tryz.ntmps245
  go_wp2_with fail
  go_loopw [9] (fun si wr => ∃ i : Nat, si = .int .i64 (i : Int) ∧ i ≤ ls.length ∧ Hid ((ls.take i).all inP = true) ∧ Below w.heap.size w wr) (fun si _ => ls.length - (intOf si).toNat)
  case atStart => exact ⟨0, rfl, Nat.zero_le _, rfl, Below.refl _ _⟩
  case round =>
    obtain ⟨i, rfl, hi, ha, hB⟩ := hrel
    by_cases hlt : i < ls.length
    · obtain ⟨k0, k1, k2⟩ := (HR.out.later hB hb).sp hlt
      have HF := Lib.hid (fun W => high_c (Po.at_ ls i) W)
      have hbad := HBAD.out i hlt
      have hstep := allS_step hlt ha.out
      have hA := hB.nx (below_al wr (.cells #[.int .i64 (Po.at_ ls i).x, .int .i64 (Po.at_ ls i).y, .int .i64 (Po.at_ ls i).z] 23))
      generalize Po.at_ ls i = p at *
      obtain ⟨x, y, z⟩ := p
      simp only at k0 k1 k2 hA
      cases hq : inP ⟨x, y, z⟩ with
      | false =>
        obtain rfl : E = 2 := hbad hq
        rw [hq] at HF
        clear hbad hstep hq HBAD HOK
        go_wp2_with fail
        ((with_reducible refine (HF.out _).mono ?_); rintro e w1 ⟨rfl, hb1⟩)
        go_wp2
        go_ret
        exact ⟨rfl, hA.nx hb1⟩
      | true =>
        have HS := Lib.hid (hstep hq)
        rw [hq] at HF
        clear hbad hstep hq
        go_wp2_with fail
        ((with_reducible refine (HF.out _).mono ?_); rintro e w1 ⟨rfl, hb1⟩)
        go_wp2
        go_roundw
        case rel => exact ⟨i + 1, by go_num, by omega, HS.out, hA.nx hb1⟩
        case measure => simp [intOf]; omega
    · obtain rfl : i = ls.length := by omega
      have h0 := ha.out
      rw [List.take_length] at h0
      obtain rfl : E = 0 := HOK.out h0
      clear ha h0 HBAD HOK
      go_wp2
      go_ret
      exact ⟨rfl, hB⟩
theorem chkS_long {ls : List Sp} (h : 64 < ls.length) : chkS ls = 5 := by unfold chkS; rw [if_pos h]
theorem chkS_all {ls : List Sp} (h : ¬ 64 < ls.length) : chkS ls = allS ls := by unfold chkS allS; rw [if_neg h]
theorem SlX.lenS {w : World} {v : Value} {ls : List Sp} (S : SlX w v ls) : ∃ a cap, v = .slice a ls.length cap := by
  rcases S with ⟨a, cap, rfl, rfl⟩ | ⟨b, off, cap, rfl, -, -⟩
  · exact ⟨a, cap, rfl⟩
  · exact ⟨_, cap, rfl⟩
set_option maxRecDepth 100000 in
set_option maxHeartbeats 1000000 in
theorem vCheckS_c {v : Value} (ls : List Sp) (w : World) (S : SlX w v ls) (hln : ls.length ≤ 140737488355328) : Calls Tryz.prog 145 #[v] w (Ret w (.int .i64 (chkS ls))) := by
  have HK := Lib.hid (show Calls Tryz.prog 205 #[v, .func (.func 206) #[] #[]] w (Ret w (.int .i64 (chkS ls))) by
    have HA := Lib.hid (vallS_c ls w S hln)
    obtain ⟨a, cap, rfl⟩ := S.lenS
    by_cases h : 64 < ls.length
    · rw [chkS_long h]
      go_enter Tryz.func205, Tryz.ntmps205
      go_wp2
      go_ret
      exact ⟨rfl, Below.refl _ _⟩
    · rw [chkS_all h]
      go_enter Tryz.func205, Tryz.ntmps205
      go_wp2_with fail
      ((with_reducible refine (HA.out).mono ?_); rintro e w1 ⟨rfl, hb1⟩)
      go_wp2
      go_ret
      exact ⟨rfl, hb1⟩)
  go_enter Tryz.func145, Tryz.ntmps145
  go_wp2_with fail
  ((with_reducible refine (HK.out).mono ?_); rintro e w1 ⟨rfl, hb1⟩)
  go_wp2
  go_ret
  exact ⟨rfl, hb1⟩
set_option maxRecDepth 100000 in
set_option maxHeartbeats 1000000 in
theorem rCheckS_c {v : Value} (ls : List Sp) (w : World) (S : SlX w v ls) (hln : ls.length ≤ 140737488355328) : Calls Tryz.prog 81 #[v] w (Ret w (.int .i64 (chkS ls))) := by
  by_cases h64 : 64 < ls.length
  · rw [chkS_long h64]
    obtain ⟨a, cap, rfl⟩ := S.lenS
    go_enter Tryz.func81, Tryz.ntmps81
    go_wp2
    go_ret
    exact ⟨rfl, Below.refl _ _⟩
  rw [chkS_all h64]
  refine S.cases _ ?_ ?_
  · rintro a cap rfl rfl
    go_enter Tryz.func81, Tryz.ntmps81
    go_wp2_with fail
    refine wp_loop_rounds 1 ?_
    rw [rounds_succ]
    go_wp2
    go_ret
    exact ⟨rfl, Below.refl _ _⟩
  rintro b off cap rfl hp hR hb
  have HBAD := Lib.hid (fun i hi => allS_bad (ls := ls) (i := i) hi)
  have HOK := Lib.hid (show ls.all inP = true → allS ls = 0 from fun h => by unfold allS; rw [if_pos h])
  have HR := Lib.hid hR
  generalize allS ls = E at *
  clear hR
  go_enter Tryz.func81, Tryz.ntmps81
  go_wp2_with fail
  go_loopw [3] (fun si wr => ∃ i : Nat, si = .int .i64 (i : Int) ∧ i ≤ ls.length ∧ Hid ((ls.take i).all inP = true) ∧ Below w.heap.size w wr) (fun si _ => ls.length - (intOf si).toNat)
  case atStart => exact ⟨0, rfl, Nat.zero_le _, rfl, Below.refl _ _⟩
  case round =>
    obtain ⟨i, rfl, hi, ha, hB⟩ := hrel
    by_cases hlt : i < ls.length
    · obtain ⟨k0, k1, k2⟩ := (HR.out.later hB hb).sp hlt
      have HF := Lib.hid (fun W => rRightS_p (Po.at_ ls i) W)
      have hbad := HBAD.out i hlt
      have hstep := allS_step hlt ha.out
      generalize Po.at_ ls i = p at *
      obtain ⟨x, y, z⟩ := p
      simp only at k0 k1 k2
      cases hq : inP ⟨x, y, z⟩ with
      | false =>
        obtain rfl : E = 2 := hbad hq
        rw [hq] at HF
        clear hbad hstep hq HBAD HOK
        go_wp2_with fail
        ((with_reducible refine (HF.out _).mono ?_); rintro e w1 ⟨rfl, hb1⟩)
        go_wp2
        go_ret
        exact ⟨rfl, hB.nx hb1⟩
      | true =>
        have HS := Lib.hid (hstep hq)
        rw [hq] at HF
        clear hbad hstep hq
        go_wp2_with fail
        ((with_reducible refine (HF.out _).mono ?_); rintro e w1 ⟨rfl, hb1⟩)
        go_wp2
        go_roundw
        case rel => exact ⟨i + 1, by go_num, by omega, HS.out, hB.nx hb1⟩
        case measure => simp [intOf]; omega
    · obtain rfl : i = ls.length := by omega
      have h0 := ha.out
      rw [List.take_length] at h0
      obtain rfl : E = 0 := HOK.out h0
      clear ha h0 HBAD HOK
      go_wp2
      go_ret
      exact ⟨rfl, hB⟩
end Go.Proofs.Wk
/- POSITION, FOR THE WALKS: datums, frames, cases, torsors as values and rows. -/
namespace Go.Proofs.Wk
open Go.RowKit Mt Po

instance : Row Dt where
  enc d := [.string ⟨d.nm.toArray⟩, .int .i64 d.mat]
  k := 2
  len _ := rfl
  pos := by decide
  one a u hu := by
    simp only [List.mem_cons, List.not_mem_nil, or_false] at hu
    rcases hu with rfl | rfl <;> rfl
/-- A frame as it lies: with the slice of its datums. -/
structure FrV where
  x : Fm
  a : Option Addr
  len : Nat
  cap : Nat
instance : Row FrV where
  enc f := [.int .i64 f.x.kind, .bool f.x.disc, .int .i64 f.x.tol, .int .i64 f.x.mat, .slice f.a f.len f.cap]
  k := 5
  len _ := rfl
  pos := by decide
  one a u hu := by
    simp only [List.mem_cons, List.not_mem_nil, or_false] at hu
    rcases hu with rfl | rfl | rfl | rfl | rfl <;> rfl
/-- Six texts. -/
structure TT where
  a0 : Txt
  a1 : Txt
  a2 : Txt
  b0 : Txt
  b1 : Txt
  b2 : Txt
def TT.l (t : TT) : List Txt := [t.a0, t.a1, t.a2, t.b0, t.b1, t.b2]
instance : Row TT where
  enc t := [txt t.a0, txt t.a1, txt t.a2, txt t.b0, txt t.b1, txt t.b2]
  k := 6
  len _ := rfl
  pos := by decide
  one a u hu := by
    simp only [List.mem_cons, List.not_mem_nil, or_false] at hu
    rcases hu with rfl | rfl | rfl | rfl | rfl | rfl <;> rfl
abbrev ttV (t : TT) : Value := .agg #[.string ⟨t.a0.toArray⟩, .string ⟨t.a1.toArray⟩, .string ⟨t.a2.toArray⟩, .string ⟨t.b0.toArray⟩, .string ⟨t.b1.toArray⟩, .string ⟨t.b2.toArray⟩]
/-- A case without its slices. -/
structure Ca where
  f : Ft
  x : Fm
  b : Int
abbrev ftV (f : Ft) (fv : Value) : Value := .agg #[.string ⟨f.nm.toArray⟩, .int .i64 f.kind, .int .i64 f.axis, .int .i64 f.pos.x, .int .i64 f.pos.y, .int .i64 f.pos.z, .int .i64 f.lo, .int .i64 f.hi, fv]
abbrev frV (x : Fm) (dv : Value) : Value := .agg #[.int .i64 x.kind, .bool x.disc, .int .i64 x.tol, .int .i64 x.mat, dv]
abbrev caC (c : Ca) (fv dv sv : Value) : Array Value := #[.string ⟨c.f.nm.toArray⟩, .int .i64 c.f.kind, .int .i64 c.f.axis, .int .i64 c.f.pos.x, .int .i64 c.f.pos.y, .int .i64 c.f.pos.z, .int .i64 c.f.lo, .int .i64 c.f.hi, fv,
  .int .i64 c.x.kind, .bool c.x.disc, .int .i64 c.x.tol, .int .i64 c.x.mat, dv, sv, .int .i64 c.b]
abbrev caV (c : Ca) (fv dv sv : Value) : Value := .agg (caC c fv dv sv)
theorem RX.dt {w : World} {b off : Nat} {ls : List Dt} (h : RX w b off ls) {i : Nat} (hi : i < ls.length) :
    w.cell? ⟨b, off + i * 2, none⟩ = some (.string ⟨ls[i].nm.toArray⟩) ∧ w.cell? ⟨b, off + i * 2 + 1, none⟩ = some (.int .i64 ls[i].mat) :=
  ⟨h i hi 0 (by decide), h i hi 1 (by decide)⟩
theorem RX.fr {w : World} {b off : Nat} {ls : List FrV} (h : RX w b off ls) {i : Nat} (hi : i < ls.length) :
    w.cell? ⟨b, off + i * 5, none⟩ = some (.int .i64 ls[i].x.kind) ∧ w.cell? ⟨b, off + i * 5 + 1, none⟩ = some (.bool ls[i].x.disc) ∧ w.cell? ⟨b, off + i * 5 + 2, none⟩ = some (.int .i64 ls[i].x.tol) ∧
      w.cell? ⟨b, off + i * 5 + 3, none⟩ = some (.int .i64 ls[i].x.mat) ∧ w.cell? ⟨b, off + i * 5 + 4, none⟩ = some (.slice ls[i].a ls[i].len ls[i].cap) :=
  ⟨h i hi 0 (by decide), h i hi 1 (by decide), h i hi 2 (by decide), h i hi 3 (by decide), h i hi 4 (by decide)⟩
theorem c6row {w : World} {b : Nat} {u0 u1 u2 u3 u4 u5 : Value} {T : TypeId} {fr : Nat × Nat} (h : w.heap[b]? = some (.cells #[u0, u1, u2, u3, u4, u5] T fr)) :
    w.cell? ⟨b, 0, none⟩ = some u0 ∧ w.cell? ⟨b, 1, none⟩ = some u1 ∧ w.cell? ⟨b, 2, none⟩ = some u2 ∧ w.cell? ⟨b, 3, none⟩ = some u3 ∧ w.cell? ⟨b, 4, none⟩ = some u4 ∧ w.cell? ⟨b, 5, none⟩ = some u5 := by
  refine ⟨?_, ?_, ?_, ?_, ?_, ?_⟩ <;> (rw [cell_of_row _ _ _ _ _ _ h]; rfl)
theorem c5row {w : World} {b : Nat} {u0 u1 u2 u3 u4 : Value} {T : TypeId} {fr : Nat × Nat} (h : w.heap[b]? = some (.cells #[u0, u1, u2, u3, u4] T fr)) :
    w.cell? ⟨b, 0, none⟩ = some u0 ∧ w.cell? ⟨b, 1, none⟩ = some u1 ∧ w.cell? ⟨b, 2, none⟩ = some u2 ∧ w.cell? ⟨b, 3, none⟩ = some u3 ∧ w.cell? ⟨b, 4, none⟩ = some u4 := by
  refine ⟨?_, ?_, ?_, ?_, ?_⟩ <;> (rw [cell_of_row _ _ _ _ _ _ h]; rfl)
theorem c9row {w : World} {b : Nat} {u0 u1 u2 u3 u4 u5 u6 u7 u8 : Value} {T : TypeId} {fr : Nat × Nat} (h : w.heap[b]? = some (.cells #[u0, u1, u2, u3, u4, u5, u6, u7, u8] T fr)) :
    w.cell? ⟨b, 0, none⟩ = some u0 ∧ w.cell? ⟨b, 1, none⟩ = some u1 ∧ w.cell? ⟨b, 2, none⟩ = some u2 ∧ w.cell? ⟨b, 3, none⟩ = some u3 ∧ w.cell? ⟨b, 4, none⟩ = some u4 ∧ w.cell? ⟨b, 5, none⟩ = some u5 ∧
      w.cell? ⟨b, 6, none⟩ = some u6 ∧ w.cell? ⟨b, 7, none⟩ = some u7 ∧ w.cell? ⟨b, 8, none⟩ = some u8 := by
  refine ⟨?_, ?_, ?_, ?_, ?_, ?_, ?_, ?_, ?_⟩ <;> (rw [cell_of_row _ _ _ _ _ _ h]; rfl)
theorem c16row {w : World} {b : Nat} {u0 u1 u2 u3 u4 u5 u6 u7 u8 u9 ua ub uc ud ue uf : Value} {T : TypeId} {fr : Nat × Nat} (h : w.heap[b]? = some (.cells #[u0, u1, u2, u3, u4, u5, u6, u7, u8, u9, ua, ub, uc, ud, ue, uf] T fr)) :
    w.cell? ⟨b, 0, none⟩ = some u0 ∧ w.cell? ⟨b, 1, none⟩ = some u1 ∧ w.cell? ⟨b, 2, none⟩ = some u2 ∧ w.cell? ⟨b, 3, none⟩ = some u3 ∧ w.cell? ⟨b, 4, none⟩ = some u4 ∧ w.cell? ⟨b, 5, none⟩ = some u5 ∧
      w.cell? ⟨b, 6, none⟩ = some u6 ∧ w.cell? ⟨b, 7, none⟩ = some u7 ∧ w.cell? ⟨b, 8, none⟩ = some u8 ∧ w.cell? ⟨b, 9, none⟩ = some u9 ∧ w.cell? ⟨b, 10, none⟩ = some ua ∧ w.cell? ⟨b, 11, none⟩ = some ub ∧
      w.cell? ⟨b, 12, none⟩ = some uc ∧ w.cell? ⟨b, 13, none⟩ = some ud ∧ w.cell? ⟨b, 14, none⟩ = some ue ∧ w.cell? ⟨b, 15, none⟩ = some uf := by
  refine ⟨?_, ?_, ?_, ?_, ?_, ?_, ?_, ?_, ?_, ?_, ?_, ?_, ?_, ?_, ?_, ?_⟩ <;> (rw [cell_of_row _ _ _ _ _ _ h]; rfl)
/-- A slice of datums. -/
def DtS (W : World) (v : Value) (ds : List Dt) : Prop := SlX W v ds ∧ ds.length ≤ 140737488355328 ∧ (∀ d ∈ ds, d.nm.length ≤ 140737488355328) ∧ ∃ a cap, v = .slice a ds.length cap ∧ ds.length ≤ cap
/-- A slice of frames, each with its datums. -/
def FrS (W : World) (v : Value) (fs : List FrV) : Prop := SlX W v fs ∧ fs.length ≤ 140737488355328 ∧ ∀ f ∈ fs, ∃ ds : List Dt, f.len = ds.length ∧ DtS W (.slice f.a f.len f.cap) ds
theorem DtS.form {W : World} {v : Value} {ds : List Dt} (h : DtS W v ds) : ∃ a cap, v = .slice a ds.length cap ∧ ds.length ≤ cap := h.2.2.2
/-- What a case has in memory. -/
structure CaS (W : World) (c : Ca) (fv dv sv : Value) (ds : List Dt) (ls : List Sp) : Prop where
  fr : ∃ fs, FrS W fv fs
  dt : DtS W dv ds
  sp : SlX W sv ls
  ln : ls.length ≤ 140737488355328
  nm : c.f.nm.length ≤ 140737488355328
theorem DtS.later {W W' : World} {v : Value} {ds : List Dt} (h : DtS W v ds) (hb : Below W.heap.size W W') : DtS W' v ds := ⟨h.1.later hb, h.2⟩
theorem FrS.later {W W' : World} {v : Value} {fs : List FrV} (h : FrS W v fs) (hb : Below W.heap.size W W') : FrS W' v fs :=
  ⟨h.1.later hb, h.2.1, fun f hf => by obtain ⟨ds, e, hd⟩ := h.2.2 f hf; exact ⟨ds, e, hd.later hb⟩⟩
theorem CaS.later {W W' : World} {c : Ca} {fv dv sv : Value} {ds : List Dt} {ls : List Sp} (h : CaS W c fv dv sv ds ls) (hb : Below W.heap.size W W') : CaS W' c fv dv sv ds ls :=
  ⟨by obtain ⟨fs, hf⟩ := h.fr; exact ⟨fs, hf.later hb⟩, h.dt.later hb, h.sp.later hb, h.ln, h.nm⟩
end Go.Proofs.Wk
/- POSITION, FOR THE WALKS: two blocks that are kept while a function runs; rows of six cells. -/
namespace Go.Proofs.Wk
open Go.RowKit Mt Po

/-- Two blocks that are kept. -/
structure Tw (w W : World) (g1 g2 : Nat) (o1 o2 : Obj) : Prop where
  a : W.heap[g1]? = some o1
  b : W.heap[g2]? = some o2
  w : Below w.heap.size w W
theorem Tw.later {w W W' : World} {g1 g2 : Nat} {o1 o2 : Obj} (h : Tw w W g1 g2 o1 o2) (hb : Below W.heap.size W W') : Tw w W' g1 g2 o1 o2 := ⟨keepD h.a hb, keepD h.b hb, h.w.nx hb⟩
theorem Tw.drew {w W : World} {g1 g2 : Nat} {o1 o2 : Obj} (h : Tw w W g1 g2 o1 o2) : Tw w W.drew g1 g2 o1 o2 := ⟨h.a, h.b, h.w.drew⟩
theorem Tw.dN {w W : World} {g1 g2 : Nat} {o1 o2 : Obj} (h : Tw w W g1 g2 o1 o2) (n : Nat) : Tw w (W.drewN n) g1 g2 o1 o2 := ⟨h.a, h.b, h.w.os, h.w.tape, h.w.output, h.w.size, h.w.block⟩
theorem Tw.lt1 {w W : World} {g1 g2 : Nat} {o1 o2 : Obj} (h : Tw w W g1 g2 o1 o2) : g1 < W.heap.size := (Array.getElem?_eq_some_iff.1 h.a).1
theorem Tw.lt2 {w W : World} {g1 g2 : Nat} {o1 o2 : Obj} (h : Tw w W g1 g2 o1 o2) : g2 < W.heap.size := (Array.getElem?_eq_some_iff.1 h.b).1
theorem Tw.set {w W : World} {g1 g2 : Nat} {o1 o2 : Obj} (h : Tw w W g1 g2 o1 o2) {p : Addr} (v : Value) (h1 : g1 ≠ p.block) (h2 : g2 ≠ p.block) (h3 : w.heap.size ≤ p.block) : Tw w (W.setCell p v) g1 g2 o1 o2 :=
  ⟨(heap_setCell_other _ _ _ _ h1).trans h.a, (heap_setCell_other _ _ _ _ h2).trans h.b, h.w.cel h3 v⟩
theorem Tw.new (w : World) (o1 o2 : List Value) (t1 t2 : TypeId) : Tw w ((w.alloc (.cells o1.toArray t1)).alloc (.cells o2.toArray t2)) w.heap.size (w.heap.size + 1) (.cells o1.toArray t1 (0, 0)) (.cells o2.toArray t2 (0, 0)) := by
  have h2 := heap_alloc_new (w.alloc (.cells o1.toArray t1)) (.cells o2.toArray t2)
  rw [World.size_alloc] at h2
  exact ⟨keepD (heap_alloc_new w _) (below_al _ _), h2, (below_al w _).nx (below_al _ _)⟩
theorem s6row {w : World} {g : Nat} {u0 u1 u2 u3 u4 u5 v0 v1 v2 v3 v4 v5 : Value} {T : TypeId} (h : w.heap[g]? = some (.cells #[u0, u1, u2, u3, u4, u5] T (0, 0))) :
    ((((((w.setCell ⟨g, 0, none⟩ v0).setCell ⟨g, 1, none⟩ v1).setCell ⟨g, 2, none⟩ v2).setCell ⟨g, 3, none⟩ v3).setCell ⟨g, 4, none⟩ v4).setCell ⟨g, 5, none⟩ v5).heap[g]? = some (.cells #[v0, v1, v2, v3, v4, v5] T (0, 0)) :=
  heap_setCell_same _ g 5 _ _ v5 (heap_setCell_same _ g 4 _ _ v4 (heap_setCell_same _ g 3 _ _ v3 (heap_setCell_same _ g 2 _ _ v2 (heap_setCell_same _ g 1 _ _ v1 (heap_setCell_same w g 0 _ _ v0 h)))))
theorem Tw.set6 {w W : World} {g1 g2 : Nat} {o1 o2 : Obj} (h : Tw w W g1 g2 o1 o2) {g : Nat} (h1 : g1 ≠ g) (h2 : g2 ≠ g) (h3 : w.heap.size ≤ g) (v0 v1 v2 v3 v4 v5 : Value) :
    Tw w ((((((W.setCell ⟨g, 0, none⟩ v0).setCell ⟨g, 1, none⟩ v1).setCell ⟨g, 2, none⟩ v2).setCell ⟨g, 3, none⟩ v3).setCell ⟨g, 4, none⟩ v4).setCell ⟨g, 5, none⟩ v5) g1 g2 o1 o2 :=
  (((((h.set v0 h1 h2 h3).set v1 h1 h2 h3).set v2 h1 h2 h3).set v3 h1 h2 h3).set v4 h1 h2 h3).set v5 h1 h2 h3
/-- One block that is kept. -/
structure On (w W : World) (g : Nat) (o : Obj) : Prop where
  a : W.heap[g]? = some o
  w : Below w.heap.size w W
theorem On.later {w W W' : World} {g : Nat} {o : Obj} (h : On w W g o) (hb : Below W.heap.size W W') : On w W' g o := ⟨keepD h.a hb, h.w.nx hb⟩
theorem On.drew {w W : World} {g : Nat} {o : Obj} (h : On w W g o) : On w W.drew g o := ⟨h.a, h.w.drew⟩
theorem On.dN {w W : World} {g : Nat} {o : Obj} (h : On w W g o) (n : Nat) : On w (W.drewN n) g o := ⟨h.a, h.w.os, h.w.tape, h.w.output, h.w.size, h.w.block⟩
theorem On.lt {w W : World} {g : Nat} {o : Obj} (h : On w W g o) : g < W.heap.size := (Array.getElem?_eq_some_iff.1 h.a).1
theorem On.set {w W : World} {g : Nat} {o : Obj} (h : On w W g o) {p : Addr} (v : Value) (h1 : g ≠ p.block) (h3 : w.heap.size ≤ p.block) : On w (W.setCell p v) g o :=
  ⟨(heap_setCell_other _ _ _ _ h1).trans h.a, h.w.cel h3 v⟩
theorem On.new (w : World) (o : List Value) (t : TypeId) : On w (w.alloc (.cells o.toArray t)) w.heap.size (.cells o.toArray t (0, 0)) := ⟨heap_alloc_new w _, below_al w _⟩
end Go.Proofs.Wk
