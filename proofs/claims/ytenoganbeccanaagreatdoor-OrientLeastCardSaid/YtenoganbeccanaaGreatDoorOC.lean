/- SQUARENESS, FOR THE WALKS: points in space, their checks. -/
import Derived.Test.YtenoganbeccanaaGreatDoorNE
import Derived.Test.YtenoganbeccanaaGreatDoorOA
namespace Go.Proofs.Wk
open Go.RowKit Mt

abbrev spC (p : Or.P3) : List Value := [.int .i64 p.x, .int .i64 p.y, .int .i64 p.z]
abbrev spV (p : Or.P3) : Value := .agg #[.int .i64 p.x, .int .i64 p.y, .int .i64 p.z]
instance : Row Or.P3 where
  enc := spC
  k := 3
  len _ := rfl
  pos := by decide
  one a u hu := by
    simp only [spC, List.mem_cons, List.not_mem_nil, or_false] at hu
    rcases hu with rfl | rfl | rfl <;> rfl
theorem RX.sp {w : World} {b off : Nat} {ls : List Or.P3} (h : RX w b off ls) {i : Nat} (hi : i < ls.length) :
    w.cell? ⟨b, off + i * 3, none⟩ = some (.int .i64 (Or.at_ ls i).x) ∧ w.cell? ⟨b, off + i * 3 + 1, none⟩ = some (.int .i64 (Or.at_ ls i).y) ∧ w.cell? ⟨b, off + i * 3 + 2, none⟩ = some (.int .i64 (Or.at_ ls i).z) := by
  rw [Or.at_get hi]
  exact ⟨h i hi 0 (by decide), h i hi 1 (by decide), h i hi 2 (by decide)⟩
/-- A point in space that lies at an address. -/
structure SpAt (w : World) (b o : Nat) (p : Or.P3) : Prop where
  c0 : w.cell? ⟨b, o, none⟩ = some (.int .i64 p.x)
  c1 : w.cell? ⟨b, o + 1, none⟩ = some (.int .i64 p.y)
  c2 : w.cell? ⟨b, o + 2, none⟩ = some (.int .i64 p.z)
theorem SpAt.lt {w : World} {b o : Nat} {p : Or.P3} (h : SpAt w b o p) : b < w.heap.size := World.block_lt_of_cell? w _ h.c0
theorem SpAt.later {w w' : World} {b o : Nat} {p : Or.P3} (h : SpAt w b o p) (hb : Below w.heap.size w w') : SpAt w' b o p :=
  ⟨by rw [hb.cell (p := ⟨b, o, none⟩) h.lt]; exact h.c0, by rw [hb.cell (p := ⟨b, o + 1, none⟩) h.lt]; exact h.c1, by rw [hb.cell (p := ⟨b, o + 2, none⟩) h.lt]; exact h.c2⟩
theorem SpAt.drew {w : World} {b o : Nat} {p : Or.P3} (h : SpAt w b o p) : SpAt w.drew b o p := ⟨h.c0, h.c1, h.c2⟩
theorem SpAt.new (w : World) (p : Or.P3) (t : TypeId) : SpAt (w.alloc (.cells #[.int .i64 p.x, .int .i64 p.y, .int .i64 p.z] t)) w.heap.size 0 p :=
  ⟨by rw [cell_of_row _ _ _ _ _ _ (heap_alloc_new w _)]; rfl, by rw [cell_of_row _ _ _ _ _ _ (heap_alloc_new w _)]; rfl, by rw [cell_of_row _ _ _ _ _ _ (heap_alloc_new w _)]; rfl⟩
theorem RX.spAt {w : World} {b off : Nat} {ls : List Or.P3} (h : RX w b off ls) {i : Nat} (hi : i < ls.length) : SpAt w b (off + i * 3) (Or.at_ ls i) := by
  obtain ⟨h0, h1, h2⟩ := h.sp hi
  exact ⟨h0, h1, h2⟩
/-- A point in space in its range. -/
def InS (p : Or.P3) : Prop := (-100000 ≤ p.x ∧ p.x ≤ 100000) ∧ (-100000 ≤ p.y ∧ p.y ≤ 100000) ∧ (-100000 ≤ p.z ∧ p.z ≤ 100000)
instance (p : Or.P3) : Decidable (InS p) := by unfold InS; infer_instance
def inS (p : Or.P3) : Bool := decide (InS p)
theorem inS_iff {p : Or.P3} : inS p = true ↔ InS p := by unfold inS; simp
theorem inS_eq (p : Or.P3) : inS p = (inC p.x && (inC p.y && inC p.z)) := by
  rw [Bool.eq_iff_iff, inS_iff]
  unfold inC InS
  simp only [Bool.and_eq_true, decide_eq_true_eq]
def chkS (l : List Or.P3) : Int := if 64 < l.length then 5 else if l.all inS = true then 0 else 2
def allS (ls : List Or.P3) : Int := if ls.all inS = true then 0 else 2
theorem chkS_in {l : List Or.P3} (h : chkS l = 0) : l.length ≤ 64 ∧ ∀ p ∈ l, InS p := by
  unfold chkS at h
  split at h
  · cases h
  · split at h
    · rename_i h1 h2
      exact ⟨by omega, fun p hp => inS_iff.1 (List.all_eq_true.1 h2 p hp)⟩
    · cases h
set_option maxRecDepth 100000 in
set_option maxHeartbeats 1000000 in
theorem high_c (p : Or.P3) (w : World) : Calls Tryz.prog 193 #[spV p] w (Ret w (.bool (inS p))) := by
  rw [inS_eq]
  obtain ⟨x, y, z⟩ := p
  have HX := Lib.hid (fun W => within_c x W)
  have HY := Lib.hid (fun W => within_c y W)
  have HZ := Lib.hid (fun W => within_c z W)
  have hb := below_al w (.cells #[.int .i64 x, .int .i64 y, .int .i64 z] 52)
  generalize inC x = bx at *
  generalize inC y = by_ at *
  generalize inC z = bz at *
  cases bx with
  | false =>
    go_enter Tryz.func193, Tryz.ntmps193
    go_wp2_with fail
    ((with_reducible refine (HX.out _).mono ?_); rintro e w' ⟨rfl, rfl⟩)
    go_wp2
    go_ret
    exact ⟨rfl, hb⟩
  | true =>
    cases by_ with
    | false =>
      go_enter Tryz.func193, Tryz.ntmps193
      go_wp2_with fail
      ((with_reducible refine (HX.out _).mono ?_); rintro e w' ⟨rfl, rfl⟩)
      go_wp2_with fail
      ((with_reducible refine (HY.out _).mono ?_); rintro e w' ⟨rfl, rfl⟩)
      go_wp2
      go_ret
      exact ⟨rfl, hb⟩
    | true =>
      go_enter Tryz.func193, Tryz.ntmps193
      go_wp2_with fail
      ((with_reducible refine (HX.out _).mono ?_); rintro e w' ⟨rfl, rfl⟩)
      go_wp2_with fail
      ((with_reducible refine (HY.out _).mono ?_); rintro e w' ⟨rfl, rfl⟩)
      go_wp2_with fail
      ((with_reducible refine (HZ.out _).mono ?_); rintro e w' ⟨rfl, rfl⟩)
      go_wp2
      go_ret
      exact ⟨ret_bool (by simp), hb⟩
set_option maxRecDepth 100000 in
set_option maxHeartbeats 1000000 in
theorem rRightS_p (p : Or.P3) (w : World) : Calls Tryz.prog 60 #[spV p] w (Ret w (.bool (inS p))) := by
  rw [inS_eq]
  obtain ⟨x, y, z⟩ := p
  have HX := Lib.hid (fun W => rin_c x W)
  have HY := Lib.hid (fun W => rin_c y W)
  have HZ := Lib.hid (fun W => rin_c z W)
  have hb := below_al w (.cells #[.int .i64 x, .int .i64 y, .int .i64 z] 52)
  generalize inC x = bx at *
  generalize inC y = by_ at *
  generalize inC z = bz at *
  cases bx with
  | false =>
    go_enter Tryz.func60, Tryz.ntmps60
    go_wp2_with fail
    ((with_reducible refine (HX.out _).mono ?_); rintro e w' ⟨rfl, rfl⟩)
    go_wp2
    go_ret
    exact ⟨rfl, hb⟩
  | true =>
    cases by_ with
    | false =>
      go_enter Tryz.func60, Tryz.ntmps60
      go_wp2_with fail
      ((with_reducible refine (HX.out _).mono ?_); rintro e w' ⟨rfl, rfl⟩)
      go_wp2_with fail
      ((with_reducible refine (HY.out _).mono ?_); rintro e w' ⟨rfl, rfl⟩)
      go_wp2
      go_ret
      exact ⟨rfl, hb⟩
    | true =>
      go_enter Tryz.func60, Tryz.ntmps60
      go_wp2_with fail
      ((with_reducible refine (HX.out _).mono ?_); rintro e w' ⟨rfl, rfl⟩)
      go_wp2_with fail
      ((with_reducible refine (HY.out _).mono ?_); rintro e w' ⟨rfl, rfl⟩)
      go_wp2_with fail
      ((with_reducible refine (HZ.out _).mono ?_); rintro e w' ⟨rfl, rfl⟩)
      go_wp2
      go_ret
      exact ⟨ret_bool (by simp), hb⟩
theorem allS_bad {ls : List Or.P3} {i : Nat} (hi : i < ls.length) (h : inS (Or.at_ ls i) = false) : allS ls = 2 := by
  unfold allS
  rw [if_neg]
  intro q
  have := List.all_eq_true.1 q _ (Or.at_mem hi)
  rw [h] at this; cases this
theorem allS_step {ls : List Or.P3} {i : Nat} (hi : i < ls.length) (h : (ls.take i).all inS = true) (h2 : inS (Or.at_ ls i) = true) : (ls.take (i + 1)).all inS = true := by
  rw [List.take_succ_eq_append_getElem hi, List.all_append, h, ← Or.at_get hi]
  simp [h2]
set_option maxRecDepth 100000 in
set_option maxHeartbeats 1000000 in
theorem vallS_c {v : Value} (ls : List Or.P3) (w : World) (S : SlX w v ls) (hln : ls.length ≤ 140737488355328) :
    Calls Tryz.prog 216 #[.func (.func 193) #[] #[], v] w (Ret w (.int .i64 (allS ls))) := by
  refine S.cases _ ?_ ?_
  · rintro a cap rfl rfl
    go_enter Tryz.func216, Tryz.ntmps216
    go_wp2_with fail
    refine wp_loop_rounds 1 ?_
    rw [rounds_succ]
    go_wp2
    go_ret
    exact ⟨rfl, Below.refl _ _⟩
  rintro b off cap rfl hp hR hb
  have HBAD := Lib.hid (fun i hi => allS_bad (ls := ls) (i := i) hi)
  have HOK := Lib.hid (show ls.all inS = true → allS ls = 0 from fun h => by unfold allS; rw [if_pos h])
  have HR := Lib.hid hR
  generalize allS ls = E at *
  clear hR
  go_enter Tryz.func216, Tryz.ntmps216
  go_wp2_with fail
  go_loopw [9] (fun si wr => ∃ i : Nat, si = .int .i64 (i : Int) ∧ i ≤ ls.length ∧ Hid ((ls.take i).all inS = true) ∧ Below w.heap.size w wr) (fun si _ => ls.length - (intOf si).toNat)
  case atStart => exact ⟨0, rfl, Nat.zero_le _, rfl, Below.refl _ _⟩
  case round =>
    obtain ⟨i, rfl, hi, ha, hB⟩ := hrel
    by_cases hlt : i < ls.length
    · obtain ⟨k0, k1, k2⟩ := (HR.out.later hB hb).sp hlt
      have HF := Lib.hid (fun W => high_c (Or.at_ ls i) W)
      have hbad := HBAD.out i hlt
      have hstep := allS_step hlt ha.out
      have hA := hB.nx (below_al wr (.cells #[.int .i64 (Or.at_ ls i).x, .int .i64 (Or.at_ ls i).y, .int .i64 (Or.at_ ls i).z] 52))
      generalize Or.at_ ls i = p at *
      obtain ⟨x, y, z⟩ := p
      simp only at k0 k1 k2 hA
      cases hq : inS ⟨x, y, z⟩ with
      | false =>
        obtain rfl : E = 2 := hbad hq
        rw [hq] at HF
        clear hbad hstep hq HBAD HOK
        go_wp2_with fail
        ((with_reducible refine (HF.out _).mono ?_); rintro e w1 ⟨rfl, hb1⟩)
        go_wp2
        go_ret
        exact ⟨rfl, hA.nx hb1⟩
      | true =>
        have HS := Lib.hid (hstep hq)
        rw [hq] at HF
        clear hbad hstep hq
        go_wp2_with fail
        ((with_reducible refine (HF.out _).mono ?_); rintro e w1 ⟨rfl, hb1⟩)
        go_wp2
        go_roundw
        case rel => exact ⟨i + 1, by go_num, by omega, HS.out, hA.nx hb1⟩
        case measure => simp [intOf]; omega
    · obtain rfl : i = ls.length := by omega
      have h0 := ha.out
      rw [List.take_length] at h0
      obtain rfl : E = 0 := HOK.out h0
      clear ha h0 HBAD HOK
      go_wp2
      go_ret
      exact ⟨rfl, hB⟩
theorem chkS_long {ls : List Or.P3} (h : 64 < ls.length) : chkS ls = 5 := by unfold chkS; rw [if_pos h]
theorem chkS_all {ls : List Or.P3} (h : ¬ 64 < ls.length) : chkS ls = allS ls := by unfold chkS allS; rw [if_neg h]
theorem SlX.lenS {w : World} {v : Value} {ls : List Or.P3} (S : SlX w v ls) : ∃ a cap, v = .slice a ls.length cap := by
  rcases S with ⟨a, cap, rfl, rfl⟩ | ⟨b, off, cap, rfl, -, -⟩
  · exact ⟨a, cap, rfl⟩
  · exact ⟨_, cap, rfl⟩
set_option maxRecDepth 100000 in
set_option maxHeartbeats 1000000 in
theorem vCheckS_c {v : Value} (ls : List Or.P3) (w : World) (S : SlX w v ls) (hln : ls.length ≤ 140737488355328) : Calls Tryz.prog 142 #[v] w (Ret w (.int .i64 (chkS ls))) := by
  have HK := Lib.hid (show Calls Tryz.prog 192 #[v, .func (.func 193) #[] #[]] w (Ret w (.int .i64 (chkS ls))) by
    have HA := Lib.hid (vallS_c ls w S hln)
    obtain ⟨a, cap, rfl⟩ := S.lenS
    by_cases h : 64 < ls.length
    · rw [chkS_long h]
      go_enter Tryz.func192, Tryz.ntmps192
      go_wp2
      go_ret
      exact ⟨rfl, Below.refl _ _⟩
    · rw [chkS_all h]
      go_enter Tryz.func192, Tryz.ntmps192
      go_wp2_with fail
      ((with_reducible refine (HA.out).mono ?_); rintro e w1 ⟨rfl, hb1⟩)
      go_wp2
      go_ret
      exact ⟨rfl, hb1⟩)
  go_enter Tryz.func142, Tryz.ntmps142
  go_wp2_with fail
  ((with_reducible refine (HK.out).mono ?_); rintro e w1 ⟨rfl, hb1⟩)
  go_wp2
  go_ret
  exact ⟨rfl, hb1⟩
set_option maxRecDepth 100000 in
set_option maxHeartbeats 1000000 in
theorem rCheckS_c {v : Value} (ls : List Or.P3) (w : World) (S : SlX w v ls) (hln : ls.length ≤ 140737488355328) : Calls Tryz.prog 112 #[v] w (Ret w (.int .i64 (chkS ls))) := by
  by_cases h64 : 64 < ls.length
  · rw [chkS_long h64]
    obtain ⟨a, cap, rfl⟩ := S.lenS
    go_enter Tryz.func112, Tryz.ntmps112
    go_wp2
    go_ret
    exact ⟨rfl, Below.refl _ _⟩
  rw [chkS_all h64]
  refine S.cases _ ?_ ?_
  · rintro a cap rfl rfl
    go_enter Tryz.func112, Tryz.ntmps112
    go_wp2_with fail
    refine wp_loop_rounds 1 ?_
    rw [rounds_succ]
    go_wp2
    go_ret
    exact ⟨rfl, Below.refl _ _⟩
  rintro b off cap rfl hp hR hb
  have HBAD := Lib.hid (fun i hi => allS_bad (ls := ls) (i := i) hi)
  have HOK := Lib.hid (show ls.all inS = true → allS ls = 0 from fun h => by unfold allS; rw [if_pos h])
  have HR := Lib.hid hR
  generalize allS ls = E at *
  clear hR
  go_enter Tryz.func112, Tryz.ntmps112
  go_wp2_with fail
  go_loopw [3] (fun si wr => ∃ i : Nat, si = .int .i64 (i : Int) ∧ i ≤ ls.length ∧ Hid ((ls.take i).all inS = true) ∧ Below w.heap.size w wr) (fun si _ => ls.length - (intOf si).toNat)
  case atStart => exact ⟨0, rfl, Nat.zero_le _, rfl, Below.refl _ _⟩
  case round =>
    obtain ⟨i, rfl, hi, ha, hB⟩ := hrel
    by_cases hlt : i < ls.length
    · obtain ⟨k0, k1, k2⟩ := (HR.out.later hB hb).sp hlt
      have HF := Lib.hid (fun W => rRightS_p (Or.at_ ls i) W)
      have hbad := HBAD.out i hlt
      have hstep := allS_step hlt ha.out
      generalize Or.at_ ls i = p at *
      obtain ⟨x, y, z⟩ := p
      simp only at k0 k1 k2
      cases hq : inS ⟨x, y, z⟩ with
      | false =>
        obtain rfl : E = 2 := hbad hq
        rw [hq] at HF
        clear hbad hstep hq HBAD HOK
        go_wp2_with fail
        ((with_reducible refine (HF.out _).mono ?_); rintro e w1 ⟨rfl, hb1⟩)
        go_wp2
        go_ret
        exact ⟨rfl, hB.nx hb1⟩
      | true =>
        have HS := Lib.hid (hstep hq)
        rw [hq] at HF
        clear hbad hstep hq
        go_wp2_with fail
        ((with_reducible refine (HF.out _).mono ?_); rintro e w1 ⟨rfl, hb1⟩)
        go_wp2
        go_roundw
        case rel => exact ⟨i + 1, by go_num, by omega, HS.out, hB.nx hb1⟩
        case measure => simp [intOf]; omega
    · obtain rfl : i = ls.length := by omega
      have h0 := ha.out
      rw [List.take_length] at h0
      obtain rfl : E = 0 := HOK.out h0
      clear ha h0 HBAD HOK
      go_wp2
      go_ret
      exact ⟨rfl, hB⟩
end Go.Proofs.Wk
/- SQUARENESS: the errors of points with a direction. -/
namespace Go.Proofs.Wk
open Go.RowKit Mt

theorem sl1P (W : World) (a : St.Pt) (t : TypeId) : SlX (W.alloc (.cells #[.int .i64 a.x, .int .i64 a.y] t)) (.slice (some ⟨W.heap.size, 0, none⟩) 1 1) [a] :=
  .inr ⟨W.heap.size, 0, 1, rfl, RX.lit W [a] t, by simp⟩
theorem sl1S (W : World) (a : Or.P3) (t : TypeId) : SlX (W.alloc (.cells #[.int .i64 a.x, .int .i64 a.y, .int .i64 a.z] t)) (.slice (some ⟨W.heap.size, 0, none⟩) 1 1) [a] :=
  .inr ⟨W.heap.size, 0, 1, rfl, RX.lit W [a] t, by simp⟩
theorem sp_fields : ((Tryz.prog.fieldsOf 52).toList.map fun f => (f.name, f.type, f.offset)) = [("X", 3, 0), ("Y", 3, 1), ("Z", 3, 2)] := by kernel_rfl
theorem sp_equal (a b e c d f : Int) (w : World) : (Op.equalIn 10000 52 (.agg #[.int .i64 a, .int .i64 b, .int .i64 e]) (.agg #[.int .i64 c, .int .i64 d, .int .i64 f])).run Tryz.prog w = .ok (a == c && (b == d && e == f)) w := by
  have hf := sp_fields
  rw [show (10000 : Nat) = 9999 + 1 from rfl, run_equalIn_agg w 9999 52 _ _ (by kernel_rfl) (by kernel_rfl)]
  generalize (Tryz.prog.fieldsOf 52).toList = fs at *
  rcases fs with _ | ⟨x, _ | ⟨y, _ | ⟨z, _ | ⟨_, _⟩⟩⟩⟩
  · simp at hf
  · simp at hf
  · simp at hf
  · simp only [List.map_cons, List.map_nil, List.cons.injEq, Prod.mk.injEq, and_true] at hf
    obtain ⟨⟨f1, f2, f3⟩, ⟨g1, g2, g3⟩, k1, k2, k3⟩ := hf
    have p1 : ∀ (u v t : Int) (W : World), (part 3 #[.int .i64 u, .int .i64 v, .int .i64 t] 0).run Tryz.prog W = .ok (.int .i64 u) W := fun u v t W => by simp [part, isAgg, run_underlying Tryz.underlying3]
    have p2 : ∀ (u v t : Int) (W : World), (part 3 #[.int .i64 u, .int .i64 v, .int .i64 t] 1).run Tryz.prog W = .ok (.int .i64 v) W := fun u v t W => by simp [part, isAgg, run_underlying Tryz.underlying3]
    have p3 : ∀ (u v t : Int) (W : World), (part 3 #[.int .i64 u, .int .i64 v, .int .i64 t] 2).run Tryz.prog W = .ok (.int .i64 t) W := fun u v t W => by simp [part, isAgg, run_underlying Tryz.underlying3]
    have e1 := fun (u v : Int) (W : World) => run_equalIn_int (P := Tryz.prog) W 9998 3 .i64 .i64 u v Tryz.underlying3
    simp only [Op.eqFields, f1, f2, f3, g1, g2, g3, k1, k2, k3, show (("X" : String) ≠ "_") = True from by simp, show (("Y" : String) ≠ "_") = True from by simp, show (("Z" : String) ≠ "_") = True from by simp, if_true, Sem.run_bind, p1, p2, p3, Result.andThen_ok, e1, Sem.run_ite]
    cases h1 : (a == c) <;> cases h2 : (b == d) <;> cases h3 : (e == f) <;> simp
  · simp at hf
theorem sp_eql (a b e c d f : Int) (w : World) : (binOp .eql 52 (.agg #[.int .i64 a, .int .i64 b, .int .i64 e]) (.agg #[.int .i64 c, .int .i64 d, .int .i64 f])).run Tryz.prog w = .ok (.bool (a == c && (b == d && e == f))) w := by
  rw [run_eql_struct, sp_equal]; rfl
theorem sp_neq (a b e c d f : Int) (w : World) : (binOp .neq 52 (.agg #[.int .i64 a, .int .i64 b, .int .i64 e]) (.agg #[.int .i64 c, .int .i64 d, .int .i64 f])).run Tryz.prog w = .ok (.bool (!(a == c && (b == d && e == f)))) w := by
  rw [run_neq_struct, sp_equal]; rfl
theorem sp_beq (p q : Or.P3) : (p.x == q.x && (p.y == q.y && p.z == q.z)) = decide (p = q) := by
  obtain ⟨a, b, e⟩ := p
  obtain ⟨c, d, f⟩ := q
  rw [Bool.eq_iff_iff]
  simp
theorem chkP_one (p : St.Pt) : St.chkP [p] = if St.inB p = true then 0 else 2 := by unfold St.chkP; simp
theorem chkS_one (p : Or.P3) : chkS [p] = if inS p = true then 0 else 2 := by unfold chkS; simp
/-- The number of the error of points with a direction. -/
def flatE (l : List St.Pt) (d : St.Pt) : Int := if St.chkP l = 0 then (if St.inB d = true then (if l.length = 0 then 13 else if d = ⟨0, 0⟩ then 10 else 0) else 2) else St.chkP l
def highE (l : List Or.P3) (d : Or.P3) : Int := if chkS l = 0 then (if inS d = true then (if l.length = 0 then 13 else if d = ⟨0, 0, 0⟩ then 10 else 0) else 2) else chkS l
theorem flatE_ok {l : List St.Pt} {d : St.Pt} (h : flatE l d = 0) : 0 < l.length ∧ l.length ≤ 64 ∧ (∀ p ∈ l, St.InP p) ∧ St.InP d ∧ d ≠ ⟨0, 0⟩ := by
  unfold flatE at h
  split at h
  · rename_i h1
    split at h
    · rename_i h2
      split at h
      · cases h
      · rename_i h3
        split at h
        · cases h
        · rename_i h4
          have := St.chkP_in h1
          exact ⟨by omega, this.1, this.2, St.inB_iff.1 h2, h4⟩
    · cases h
  · rename_i h1; exact absurd h h1
theorem highE_ok {l : List Or.P3} {d : Or.P3} (h : highE l d = 0) : 0 < l.length ∧ l.length ≤ 64 ∧ (∀ p ∈ l, InS p) ∧ InS d ∧ d ≠ ⟨0, 0, 0⟩ := by
  unfold highE at h
  split at h
  · rename_i h1
    split at h
    · rename_i h2
      split at h
      · cases h
      · rename_i h3
        split at h
        · cases h
        · rename_i h4
          have := chkS_in h1
          exact ⟨by omega, this.1, this.2, inS_iff.1 h2, h4⟩
    · cases h
  · rename_i h1; exact absurd h h1
set_option maxRecDepth 100000 in
set_option maxHeartbeats 1000000 in
theorem oflat_c {v : Value} (ls : List St.Pt) (d : St.Pt) (w : World) (S : SlX w v ls) (hln : ls.length ≤ 140737488355328) : Calls Tryz.prog 138 #[v, ptV d] w (Ret w (.int .i64 (flatE ls d))) := by
  have HK := Lib.hid (fun W (h : Below w.heap.size w W) => vCheck_c ls W (S.later h) hln)
  have HD := Lib.hid (fun W => by have := vCheck_c [d] (W.alloc (.cells #[.int .i64 d.x, .int .i64 d.y] 42)) (sl1P W d 42) (by simp); rwa [chkP_one] at this)
  have hA := below_al w (.cells #[.int .i64 d.x, .int .i64 d.y] 42)
  have hC := heap_alloc_new w (.cells #[.int .i64 d.x, .int .i64 d.y] 42)
  have hd : (d.x == 0 && d.y == 0) = decide (d = ⟨0, 0⟩) := pt_beq d ⟨0, 0⟩
  have pe := fun W => pt_eql d.x d.y 0 0 W
  unfold flatE
  generalize St.chkP ls = E at *
  generalize St.inB d = q at *
  obtain ⟨a, cap, rfl⟩ := S.len
  generalize ls.length = n at *
  obtain ⟨dx, dy⟩ := d
  simp only at hA hC hd pe HD
  simp only [St.Pt.mk.injEq] at hd ⊢
  generalize hz : (dx == 0 && dy == 0) = z at *
  have cs : w.heap.size < (w.alloc (.cells #[.int .i64 dx, .int .i64 dy] 42)).heap.size := by rw [World.size_alloc]; omega
  clear S hln
  by_cases hE : E = 0
  · subst hE
    rw [if_pos rfl]
    cases q with
    | false =>
      simp only [Bool.false_eq_true, if_false] at HD ⊢
      go_enter Tryz.func138, Tryz.ntmps138
      go_wp2_with fail
      ((with_reducible refine (HK.out _ hA).mono ?_); rintro e w1 ⟨rfl, hb1⟩)
      have hB1 := hA.nx hb1
      have hC1 := (hb1.block _ cs).trans hC
      have k1 := cell_of_row w1 w.heap.size 0 _ _ _ hC1
      have k2 := cell_of_row w1 w.heap.size 1 _ _ _ hC1
      skip
      simp only [List.getElem?_toArray, List.getElem?_cons_zero, List.getElem?_cons_succ] at k1 k2 
      clear hA hC cs hC1 hb1 HK
      go_wp2_with fail
      have hA2 := below_al w1 (.cells #[.int .i64 dx, .int .i64 dy] 42)
      ((with_reducible refine (HD.out _).mono ?_); rintro e w2 ⟨rfl, hb2⟩)
      have hB2 := (hB1.nx hA2).nx hb2
      have j1 := ((hA2.nx hb2).cell (World.block_lt_of_cell? w1 _ k1)).trans k1
      have j2 := ((hA2.nx hb2).cell (World.block_lt_of_cell? w1 _ k2)).trans k2
      skip
      clear k1 k2  hB1 hA2 hb2 HD
      go_wp2
      go_ret
      exact ⟨rfl, hB2⟩
    | true =>
      simp only [if_true] at HD ⊢
      by_cases hn : n = 0
      · rw [if_pos hn]
        subst hn
        go_enter Tryz.func138, Tryz.ntmps138
        go_wp2_with fail
        ((with_reducible refine (HK.out _ hA).mono ?_); rintro e w1 ⟨rfl, hb1⟩)
        have hB1 := hA.nx hb1
        have hC1 := (hb1.block _ cs).trans hC
        have k1 := cell_of_row w1 w.heap.size 0 _ _ _ hC1
        have k2 := cell_of_row w1 w.heap.size 1 _ _ _ hC1
        skip
        simp only [List.getElem?_toArray, List.getElem?_cons_zero, List.getElem?_cons_succ] at k1 k2 
        clear hA hC cs hC1 hb1 HK
        go_wp2_with fail
        have hA2 := below_al w1 (.cells #[.int .i64 dx, .int .i64 dy] 42)
        ((with_reducible refine (HD.out _).mono ?_); rintro e w2 ⟨rfl, hb2⟩)
        have hB2 := (hB1.nx hA2).nx hb2
        have j1 := ((hA2.nx hb2).cell (World.block_lt_of_cell? w1 _ k1)).trans k1
        have j2 := ((hA2.nx hb2).cell (World.block_lt_of_cell? w1 _ k2)).trans k2
        skip
        clear k1 k2  hB1 hA2 hb2 HD
        go_wp2
        go_ret
        exact ⟨rfl, hB2⟩
      · rw [if_neg hn]
        have zn : decide ((n : Int) = 0) = false := decide_eq_false (by omega)
        have zn2 : ((n : Int) == 0) = false := beq_eq_false_iff_ne.2 (by omega)
        have zn3 : ¬ (n : Int) = 0 := by omega
        cases z with
        | false =>
          rw [if_neg (of_decide_eq_false hd.symm)]
          clear hd hz
          go_enter Tryz.func138, Tryz.ntmps138
          go_wp2_with fail
          ((with_reducible refine (HK.out _ hA).mono ?_); rintro e w1 ⟨rfl, hb1⟩)
          have hB1 := hA.nx hb1
          have hC1 := (hb1.block _ cs).trans hC
          have k1 := cell_of_row w1 w.heap.size 0 _ _ _ hC1
          have k2 := cell_of_row w1 w.heap.size 1 _ _ _ hC1
          skip
          simp only [List.getElem?_toArray, List.getElem?_cons_zero, List.getElem?_cons_succ] at k1 k2 
          clear hA hC cs hC1 hb1 HK
          go_wp2_with fail
          have hA2 := below_al w1 (.cells #[.int .i64 dx, .int .i64 dy] 42)
          ((with_reducible refine (HD.out _).mono ?_); rintro e w2 ⟨rfl, hb2⟩)
          have hB2 := (hB1.nx hA2).nx hb2
          have j1 := ((hA2.nx hb2).cell (World.block_lt_of_cell? w1 _ k1)).trans k1
          have j2 := ((hA2.nx hb2).cell (World.block_lt_of_cell? w1 _ k2)).trans k2
          skip
          clear k1 k2  hB1 hA2 hb2 HD
          go_wp2
          go_ret
          exact ⟨rfl, hB2⟩
        | true =>
          rw [if_pos (of_decide_eq_true hd.symm)]
          clear hd hz
          go_enter Tryz.func138, Tryz.ntmps138
          go_wp2_with fail
          ((with_reducible refine (HK.out _ hA).mono ?_); rintro e w1 ⟨rfl, hb1⟩)
          have hB1 := hA.nx hb1
          have hC1 := (hb1.block _ cs).trans hC
          have k1 := cell_of_row w1 w.heap.size 0 _ _ _ hC1
          have k2 := cell_of_row w1 w.heap.size 1 _ _ _ hC1
          skip
          simp only [List.getElem?_toArray, List.getElem?_cons_zero, List.getElem?_cons_succ] at k1 k2 
          clear hA hC cs hC1 hb1 HK
          go_wp2_with fail
          have hA2 := below_al w1 (.cells #[.int .i64 dx, .int .i64 dy] 42)
          ((with_reducible refine (HD.out _).mono ?_); rintro e w2 ⟨rfl, hb2⟩)
          have hB2 := (hB1.nx hA2).nx hb2
          have j1 := ((hA2.nx hb2).cell (World.block_lt_of_cell? w1 _ k1)).trans k1
          have j2 := ((hA2.nx hb2).cell (World.block_lt_of_cell? w1 _ k2)).trans k2
          skip
          clear k1 k2  hB1 hA2 hb2 HD
          go_wp2
          go_ret
          exact ⟨rfl, hB2⟩
  · rw [if_neg hE]
    have z1 : (E != 0) = true := bne_iff_ne.2 hE
    go_enter Tryz.func138, Tryz.ntmps138
    go_wp2_with fail
    ((with_reducible refine (HK.out _ hA).mono ?_); rintro e w1 ⟨rfl, hb1⟩)
    have hB1 := hA.nx hb1
    go_wp2
    go_ret
    exact ⟨rfl, hB1⟩
set_option maxRecDepth 100000 in
set_option maxHeartbeats 1000000 in
theorem rFlat_c {v : Value} (ls : List St.Pt) (d : St.Pt) (w : World) (S : SlX w v ls) (hln : ls.length ≤ 140737488355328) : Calls Tryz.prog 39 #[v, ptV d] w (Ret w (.int .i64 (flatE ls d))) := by
  have HK := Lib.hid (fun W (h : Below w.heap.size w W) => rpCheck_c ls W (S.later h) hln)
  have HD := Lib.hid (fun W => rRight_p d W)
  have hA := below_al w (.cells #[.int .i64 d.x, .int .i64 d.y] 42)
  have hC := heap_alloc_new w (.cells #[.int .i64 d.x, .int .i64 d.y] 42)
  have hd : (d.x == 0 && d.y == 0) = decide (d = ⟨0, 0⟩) := pt_beq d ⟨0, 0⟩
  have pe := fun W => pt_eql d.x d.y 0 0 W
  unfold flatE
  generalize St.chkP ls = E at *
  generalize St.inB d = q at *
  obtain ⟨a, cap, rfl⟩ := S.len
  generalize ls.length = n at *
  obtain ⟨dx, dy⟩ := d
  simp only at hA hC hd pe HD
  simp only [St.Pt.mk.injEq] at hd ⊢
  generalize hz : (dx == 0 && dy == 0) = z at *
  have cs : w.heap.size < (w.alloc (.cells #[.int .i64 dx, .int .i64 dy] 42)).heap.size := by rw [World.size_alloc]; omega
  clear S hln
  by_cases hE : E = 0
  · subst hE
    rw [if_pos rfl]
    cases q with
    | false =>
      rw [if_neg (by decide)]
      go_enter Tryz.func39, Tryz.ntmps39
      go_wp2_with fail
      ((with_reducible refine (HK.out _ hA).mono ?_); rintro e w1 ⟨rfl, hb1⟩)
      have hB1 := hA.nx hb1
      have hC1 := (hb1.block _ cs).trans hC
      have k1 := cell_of_row w1 w.heap.size 0 _ _ _ hC1
      have k2 := cell_of_row w1 w.heap.size 1 _ _ _ hC1
      skip
      simp only [List.getElem?_toArray, List.getElem?_cons_zero, List.getElem?_cons_succ] at k1 k2 
      clear hA hC cs hC1 hb1 HK
      go_wp2_with fail
      ((with_reducible refine (HD.out _).mono ?_); rintro e w2 ⟨rfl, hb2⟩)
      have hB2 := hB1.nx hb2
      have j1 := (hb2.cell (World.block_lt_of_cell? w1 _ k1)).trans k1
      have j2 := (hb2.cell (World.block_lt_of_cell? w1 _ k2)).trans k2
      skip
      clear k1 k2  hB1 hb2 HD
      go_wp2
      go_ret
      exact ⟨rfl, hB2⟩
    | true =>
      rw [if_pos rfl]
      by_cases hn : n = 0
      · rw [if_pos hn]
        subst hn
        go_enter Tryz.func39, Tryz.ntmps39
        go_wp2_with fail
        ((with_reducible refine (HK.out _ hA).mono ?_); rintro e w1 ⟨rfl, hb1⟩)
        have hB1 := hA.nx hb1
        have hC1 := (hb1.block _ cs).trans hC
        have k1 := cell_of_row w1 w.heap.size 0 _ _ _ hC1
        have k2 := cell_of_row w1 w.heap.size 1 _ _ _ hC1
        skip
        simp only [List.getElem?_toArray, List.getElem?_cons_zero, List.getElem?_cons_succ] at k1 k2 
        clear hA hC cs hC1 hb1 HK
        go_wp2_with fail
        ((with_reducible refine (HD.out _).mono ?_); rintro e w2 ⟨rfl, hb2⟩)
        have hB2 := hB1.nx hb2
        have j1 := (hb2.cell (World.block_lt_of_cell? w1 _ k1)).trans k1
        have j2 := (hb2.cell (World.block_lt_of_cell? w1 _ k2)).trans k2
        skip
        clear k1 k2  hB1 hb2 HD
        go_wp2
        go_ret
        exact ⟨rfl, hB2⟩
      · rw [if_neg hn]
        have zn : decide ((n : Int) = 0) = false := decide_eq_false (by omega)
        have zn2 : ((n : Int) == 0) = false := beq_eq_false_iff_ne.2 (by omega)
        have zn3 : ¬ (n : Int) = 0 := by omega
        cases z with
        | false =>
          rw [if_neg (of_decide_eq_false hd.symm)]
          clear hd hz
          go_enter Tryz.func39, Tryz.ntmps39
          go_wp2_with fail
          ((with_reducible refine (HK.out _ hA).mono ?_); rintro e w1 ⟨rfl, hb1⟩)
          have hB1 := hA.nx hb1
          have hC1 := (hb1.block _ cs).trans hC
          have k1 := cell_of_row w1 w.heap.size 0 _ _ _ hC1
          have k2 := cell_of_row w1 w.heap.size 1 _ _ _ hC1
          skip
          simp only [List.getElem?_toArray, List.getElem?_cons_zero, List.getElem?_cons_succ] at k1 k2 
          clear hA hC cs hC1 hb1 HK
          go_wp2_with fail
          ((with_reducible refine (HD.out _).mono ?_); rintro e w2 ⟨rfl, hb2⟩)
          have hB2 := hB1.nx hb2
          have j1 := (hb2.cell (World.block_lt_of_cell? w1 _ k1)).trans k1
          have j2 := (hb2.cell (World.block_lt_of_cell? w1 _ k2)).trans k2
          skip
          clear k1 k2  hB1 hb2 HD
          go_wp2
          go_ret
          exact ⟨rfl, hB2⟩
        | true =>
          rw [if_pos (of_decide_eq_true hd.symm)]
          clear hd hz
          go_enter Tryz.func39, Tryz.ntmps39
          go_wp2_with fail
          ((with_reducible refine (HK.out _ hA).mono ?_); rintro e w1 ⟨rfl, hb1⟩)
          have hB1 := hA.nx hb1
          have hC1 := (hb1.block _ cs).trans hC
          have k1 := cell_of_row w1 w.heap.size 0 _ _ _ hC1
          have k2 := cell_of_row w1 w.heap.size 1 _ _ _ hC1
          skip
          simp only [List.getElem?_toArray, List.getElem?_cons_zero, List.getElem?_cons_succ] at k1 k2 
          clear hA hC cs hC1 hb1 HK
          go_wp2_with fail
          ((with_reducible refine (HD.out _).mono ?_); rintro e w2 ⟨rfl, hb2⟩)
          have hB2 := hB1.nx hb2
          have j1 := (hb2.cell (World.block_lt_of_cell? w1 _ k1)).trans k1
          have j2 := (hb2.cell (World.block_lt_of_cell? w1 _ k2)).trans k2
          skip
          clear k1 k2  hB1 hb2 HD
          go_wp2
          go_ret
          exact ⟨rfl, hB2⟩
  · rw [if_neg hE]
    have z1 : (E != 0) = true := bne_iff_ne.2 hE
    go_enter Tryz.func39, Tryz.ntmps39
    go_wp2_with fail
    ((with_reducible refine (HK.out _ hA).mono ?_); rintro e w1 ⟨rfl, hb1⟩)
    have hB1 := hA.nx hb1
    go_wp2
    go_ret
    exact ⟨rfl, hB1⟩
set_option maxRecDepth 100000 in
set_option maxHeartbeats 1000000 in
theorem ospace_c {v : Value} (ls : List Or.P3) (d : Or.P3) (w : World) (S : SlX w v ls) (hln : ls.length ≤ 140737488355328) : Calls Tryz.prog 89 #[v, spV d] w (Ret w (.int .i64 (highE ls d))) := by
  have HK := Lib.hid (fun W (h : Below w.heap.size w W) => vCheckS_c ls W (S.later h) hln)
  have HD := Lib.hid (fun W => by have := vCheckS_c [d] (W.alloc (.cells #[.int .i64 d.x, .int .i64 d.y, .int .i64 d.z] 52)) (sl1S W d 52) (by simp); rwa [chkS_one] at this)
  have hA := below_al w (.cells #[.int .i64 d.x, .int .i64 d.y, .int .i64 d.z] 52)
  have hC := heap_alloc_new w (.cells #[.int .i64 d.x, .int .i64 d.y, .int .i64 d.z] 52)
  have hd : (d.x == 0 && (d.y == 0 && d.z == 0)) = decide (d = ⟨0, 0, 0⟩) := sp_beq d ⟨0, 0, 0⟩
  have pe := fun W => sp_eql d.x d.y d.z 0 0 0 W
  unfold highE
  generalize chkS ls = E at *
  generalize inS d = q at *
  obtain ⟨a, cap, rfl⟩ := S.lenS
  generalize ls.length = n at *
  obtain ⟨dx, dy, dz⟩ := d
  simp only at hA hC hd pe HD
  simp only [Or.P3.mk.injEq] at hd ⊢
  generalize hz : (dx == 0 && (dy == 0 && dz == 0)) = z at *
  have cs : w.heap.size < (w.alloc (.cells #[.int .i64 dx, .int .i64 dy, .int .i64 dz] 52)).heap.size := by rw [World.size_alloc]; omega
  clear S hln
  by_cases hE : E = 0
  · subst hE
    rw [if_pos rfl]
    cases q with
    | false =>
      simp only [Bool.false_eq_true, if_false] at HD ⊢
      go_enter Tryz.func89, Tryz.ntmps89
      go_wp2_with fail
      ((with_reducible refine (HK.out _ hA).mono ?_); rintro e w1 ⟨rfl, hb1⟩)
      have hB1 := hA.nx hb1
      have hC1 := (hb1.block _ cs).trans hC
      have k1 := cell_of_row w1 w.heap.size 0 _ _ _ hC1
      have k2 := cell_of_row w1 w.heap.size 1 _ _ _ hC1
      have k3 := cell_of_row w1 w.heap.size 2 _ _ _ hC1
      simp only [List.getElem?_toArray, List.getElem?_cons_zero, List.getElem?_cons_succ] at k1 k2 k3
      clear hA hC cs hC1 hb1 HK
      go_wp2_with fail
      have hA2 := below_al w1 (.cells #[.int .i64 dx, .int .i64 dy, .int .i64 dz] 52)
      ((with_reducible refine (HD.out _).mono ?_); rintro e w2 ⟨rfl, hb2⟩)
      have hB2 := (hB1.nx hA2).nx hb2
      have j1 := ((hA2.nx hb2).cell (World.block_lt_of_cell? w1 _ k1)).trans k1
      have j2 := ((hA2.nx hb2).cell (World.block_lt_of_cell? w1 _ k2)).trans k2
      have j3 := ((hA2.nx hb2).cell (World.block_lt_of_cell? w1 _ k3)).trans k3
      clear k1 k2 k3 hB1 hA2 hb2 HD
      go_wp2
      go_ret
      exact ⟨rfl, hB2⟩
    | true =>
      simp only [if_true] at HD ⊢
      by_cases hn : n = 0
      · rw [if_pos hn]
        subst hn
        go_enter Tryz.func89, Tryz.ntmps89
        go_wp2_with fail
        ((with_reducible refine (HK.out _ hA).mono ?_); rintro e w1 ⟨rfl, hb1⟩)
        have hB1 := hA.nx hb1
        have hC1 := (hb1.block _ cs).trans hC
        have k1 := cell_of_row w1 w.heap.size 0 _ _ _ hC1
        have k2 := cell_of_row w1 w.heap.size 1 _ _ _ hC1
        have k3 := cell_of_row w1 w.heap.size 2 _ _ _ hC1
        simp only [List.getElem?_toArray, List.getElem?_cons_zero, List.getElem?_cons_succ] at k1 k2 k3
        clear hA hC cs hC1 hb1 HK
        go_wp2_with fail
        have hA2 := below_al w1 (.cells #[.int .i64 dx, .int .i64 dy, .int .i64 dz] 52)
        ((with_reducible refine (HD.out _).mono ?_); rintro e w2 ⟨rfl, hb2⟩)
        have hB2 := (hB1.nx hA2).nx hb2
        have j1 := ((hA2.nx hb2).cell (World.block_lt_of_cell? w1 _ k1)).trans k1
        have j2 := ((hA2.nx hb2).cell (World.block_lt_of_cell? w1 _ k2)).trans k2
        have j3 := ((hA2.nx hb2).cell (World.block_lt_of_cell? w1 _ k3)).trans k3
        clear k1 k2 k3 hB1 hA2 hb2 HD
        go_wp2
        go_ret
        exact ⟨rfl, hB2⟩
      · rw [if_neg hn]
        have zn : decide ((n : Int) = 0) = false := decide_eq_false (by omega)
        have zn2 : ((n : Int) == 0) = false := beq_eq_false_iff_ne.2 (by omega)
        have zn3 : ¬ (n : Int) = 0 := by omega
        cases z with
        | false =>
          rw [if_neg (of_decide_eq_false hd.symm)]
          clear hd hz
          go_enter Tryz.func89, Tryz.ntmps89
          go_wp2_with fail
          ((with_reducible refine (HK.out _ hA).mono ?_); rintro e w1 ⟨rfl, hb1⟩)
          have hB1 := hA.nx hb1
          have hC1 := (hb1.block _ cs).trans hC
          have k1 := cell_of_row w1 w.heap.size 0 _ _ _ hC1
          have k2 := cell_of_row w1 w.heap.size 1 _ _ _ hC1
          have k3 := cell_of_row w1 w.heap.size 2 _ _ _ hC1
          simp only [List.getElem?_toArray, List.getElem?_cons_zero, List.getElem?_cons_succ] at k1 k2 k3
          clear hA hC cs hC1 hb1 HK
          go_wp2_with fail
          have hA2 := below_al w1 (.cells #[.int .i64 dx, .int .i64 dy, .int .i64 dz] 52)
          ((with_reducible refine (HD.out _).mono ?_); rintro e w2 ⟨rfl, hb2⟩)
          have hB2 := (hB1.nx hA2).nx hb2
          have j1 := ((hA2.nx hb2).cell (World.block_lt_of_cell? w1 _ k1)).trans k1
          have j2 := ((hA2.nx hb2).cell (World.block_lt_of_cell? w1 _ k2)).trans k2
          have j3 := ((hA2.nx hb2).cell (World.block_lt_of_cell? w1 _ k3)).trans k3
          clear k1 k2 k3 hB1 hA2 hb2 HD
          go_wp2
          go_ret
          exact ⟨rfl, hB2⟩
        | true =>
          rw [if_pos (of_decide_eq_true hd.symm)]
          clear hd hz
          go_enter Tryz.func89, Tryz.ntmps89
          go_wp2_with fail
          ((with_reducible refine (HK.out _ hA).mono ?_); rintro e w1 ⟨rfl, hb1⟩)
          have hB1 := hA.nx hb1
          have hC1 := (hb1.block _ cs).trans hC
          have k1 := cell_of_row w1 w.heap.size 0 _ _ _ hC1
          have k2 := cell_of_row w1 w.heap.size 1 _ _ _ hC1
          have k3 := cell_of_row w1 w.heap.size 2 _ _ _ hC1
          simp only [List.getElem?_toArray, List.getElem?_cons_zero, List.getElem?_cons_succ] at k1 k2 k3
          clear hA hC cs hC1 hb1 HK
          go_wp2_with fail
          have hA2 := below_al w1 (.cells #[.int .i64 dx, .int .i64 dy, .int .i64 dz] 52)
          ((with_reducible refine (HD.out _).mono ?_); rintro e w2 ⟨rfl, hb2⟩)
          have hB2 := (hB1.nx hA2).nx hb2
          have j1 := ((hA2.nx hb2).cell (World.block_lt_of_cell? w1 _ k1)).trans k1
          have j2 := ((hA2.nx hb2).cell (World.block_lt_of_cell? w1 _ k2)).trans k2
          have j3 := ((hA2.nx hb2).cell (World.block_lt_of_cell? w1 _ k3)).trans k3
          clear k1 k2 k3 hB1 hA2 hb2 HD
          go_wp2
          go_ret
          exact ⟨rfl, hB2⟩
  · rw [if_neg hE]
    have z1 : (E != 0) = true := bne_iff_ne.2 hE
    go_enter Tryz.func89, Tryz.ntmps89
    go_wp2_with fail
    ((with_reducible refine (HK.out _ hA).mono ?_); rintro e w1 ⟨rfl, hb1⟩)
    have hB1 := hA.nx hb1
    go_wp2
    go_ret
    exact ⟨rfl, hB1⟩
set_option maxRecDepth 100000 in
set_option maxHeartbeats 1000000 in
theorem rHigh_c {v : Value} (ls : List Or.P3) (d : Or.P3) (w : World) (S : SlX w v ls) (hln : ls.length ≤ 140737488355328) : Calls Tryz.prog 50 #[v, spV d] w (Ret w (.int .i64 (highE ls d))) := by
  have HK := Lib.hid (fun W (h : Below w.heap.size w W) => rCheckS_c ls W (S.later h) hln)
  have HD := Lib.hid (fun W => rRightS_p d W)
  have hA := below_al w (.cells #[.int .i64 d.x, .int .i64 d.y, .int .i64 d.z] 52)
  have hC := heap_alloc_new w (.cells #[.int .i64 d.x, .int .i64 d.y, .int .i64 d.z] 52)
  have hd : (d.x == 0 && (d.y == 0 && d.z == 0)) = decide (d = ⟨0, 0, 0⟩) := sp_beq d ⟨0, 0, 0⟩
  have pe := fun W => sp_eql d.x d.y d.z 0 0 0 W
  unfold highE
  generalize chkS ls = E at *
  generalize inS d = q at *
  obtain ⟨a, cap, rfl⟩ := S.lenS
  generalize ls.length = n at *
  obtain ⟨dx, dy, dz⟩ := d
  simp only at hA hC hd pe HD
  simp only [Or.P3.mk.injEq] at hd ⊢
  generalize hz : (dx == 0 && (dy == 0 && dz == 0)) = z at *
  have cs : w.heap.size < (w.alloc (.cells #[.int .i64 dx, .int .i64 dy, .int .i64 dz] 52)).heap.size := by rw [World.size_alloc]; omega
  clear S hln
  by_cases hE : E = 0
  · subst hE
    rw [if_pos rfl]
    cases q with
    | false =>
      rw [if_neg (by decide)]
      go_enter Tryz.func50, Tryz.ntmps50
      go_wp2_with fail
      ((with_reducible refine (HK.out _ hA).mono ?_); rintro e w1 ⟨rfl, hb1⟩)
      have hB1 := hA.nx hb1
      have hC1 := (hb1.block _ cs).trans hC
      have k1 := cell_of_row w1 w.heap.size 0 _ _ _ hC1
      have k2 := cell_of_row w1 w.heap.size 1 _ _ _ hC1
      have k3 := cell_of_row w1 w.heap.size 2 _ _ _ hC1
      simp only [List.getElem?_toArray, List.getElem?_cons_zero, List.getElem?_cons_succ] at k1 k2 k3
      clear hA hC cs hC1 hb1 HK
      go_wp2_with fail
      ((with_reducible refine (HD.out _).mono ?_); rintro e w2 ⟨rfl, hb2⟩)
      have hB2 := hB1.nx hb2
      have j1 := (hb2.cell (World.block_lt_of_cell? w1 _ k1)).trans k1
      have j2 := (hb2.cell (World.block_lt_of_cell? w1 _ k2)).trans k2
      have j3 := (hb2.cell (World.block_lt_of_cell? w1 _ k3)).trans k3
      clear k1 k2 k3 hB1 hb2 HD
      go_wp2
      go_ret
      exact ⟨rfl, hB2⟩
    | true =>
      rw [if_pos rfl]
      by_cases hn : n = 0
      · rw [if_pos hn]
        subst hn
        go_enter Tryz.func50, Tryz.ntmps50
        go_wp2_with fail
        ((with_reducible refine (HK.out _ hA).mono ?_); rintro e w1 ⟨rfl, hb1⟩)
        have hB1 := hA.nx hb1
        have hC1 := (hb1.block _ cs).trans hC
        have k1 := cell_of_row w1 w.heap.size 0 _ _ _ hC1
        have k2 := cell_of_row w1 w.heap.size 1 _ _ _ hC1
        have k3 := cell_of_row w1 w.heap.size 2 _ _ _ hC1
        simp only [List.getElem?_toArray, List.getElem?_cons_zero, List.getElem?_cons_succ] at k1 k2 k3
        clear hA hC cs hC1 hb1 HK
        go_wp2_with fail
        ((with_reducible refine (HD.out _).mono ?_); rintro e w2 ⟨rfl, hb2⟩)
        have hB2 := hB1.nx hb2
        have j1 := (hb2.cell (World.block_lt_of_cell? w1 _ k1)).trans k1
        have j2 := (hb2.cell (World.block_lt_of_cell? w1 _ k2)).trans k2
        have j3 := (hb2.cell (World.block_lt_of_cell? w1 _ k3)).trans k3
        clear k1 k2 k3 hB1 hb2 HD
        go_wp2
        go_ret
        exact ⟨rfl, hB2⟩
      · rw [if_neg hn]
        have zn : decide ((n : Int) = 0) = false := decide_eq_false (by omega)
        have zn2 : ((n : Int) == 0) = false := beq_eq_false_iff_ne.2 (by omega)
        have zn3 : ¬ (n : Int) = 0 := by omega
        cases z with
        | false =>
          rw [if_neg (of_decide_eq_false hd.symm)]
          clear hd hz
          go_enter Tryz.func50, Tryz.ntmps50
          go_wp2_with fail
          ((with_reducible refine (HK.out _ hA).mono ?_); rintro e w1 ⟨rfl, hb1⟩)
          have hB1 := hA.nx hb1
          have hC1 := (hb1.block _ cs).trans hC
          have k1 := cell_of_row w1 w.heap.size 0 _ _ _ hC1
          have k2 := cell_of_row w1 w.heap.size 1 _ _ _ hC1
          have k3 := cell_of_row w1 w.heap.size 2 _ _ _ hC1
          simp only [List.getElem?_toArray, List.getElem?_cons_zero, List.getElem?_cons_succ] at k1 k2 k3
          clear hA hC cs hC1 hb1 HK
          go_wp2_with fail
          ((with_reducible refine (HD.out _).mono ?_); rintro e w2 ⟨rfl, hb2⟩)
          have hB2 := hB1.nx hb2
          have j1 := (hb2.cell (World.block_lt_of_cell? w1 _ k1)).trans k1
          have j2 := (hb2.cell (World.block_lt_of_cell? w1 _ k2)).trans k2
          have j3 := (hb2.cell (World.block_lt_of_cell? w1 _ k3)).trans k3
          clear k1 k2 k3 hB1 hb2 HD
          go_wp2
          go_ret
          exact ⟨rfl, hB2⟩
        | true =>
          rw [if_pos (of_decide_eq_true hd.symm)]
          clear hd hz
          go_enter Tryz.func50, Tryz.ntmps50
          go_wp2_with fail
          ((with_reducible refine (HK.out _ hA).mono ?_); rintro e w1 ⟨rfl, hb1⟩)
          have hB1 := hA.nx hb1
          have hC1 := (hb1.block _ cs).trans hC
          have k1 := cell_of_row w1 w.heap.size 0 _ _ _ hC1
          have k2 := cell_of_row w1 w.heap.size 1 _ _ _ hC1
          have k3 := cell_of_row w1 w.heap.size 2 _ _ _ hC1
          simp only [List.getElem?_toArray, List.getElem?_cons_zero, List.getElem?_cons_succ] at k1 k2 k3
          clear hA hC cs hC1 hb1 HK
          go_wp2_with fail
          ((with_reducible refine (HD.out _).mono ?_); rintro e w2 ⟨rfl, hb2⟩)
          have hB2 := hB1.nx hb2
          have j1 := (hb2.cell (World.block_lt_of_cell? w1 _ k1)).trans k1
          have j2 := (hb2.cell (World.block_lt_of_cell? w1 _ k2)).trans k2
          have j3 := (hb2.cell (World.block_lt_of_cell? w1 _ k3)).trans k3
          clear k1 k2 k3 hB1 hb2 HD
          go_wp2
          go_ret
          exact ⟨rfl, hB2⟩
  · rw [if_neg hE]
    have z1 : (E != 0) = true := bne_iff_ne.2 hE
    go_enter Tryz.func50, Tryz.ntmps50
    go_wp2_with fail
    ((with_reducible refine (HK.out _ hA).mono ?_); rintro e w1 ⟨rfl, hb1⟩)
    have hB1 := hA.nx hb1
    go_wp2
    go_ret
    exact ⟨rfl, hB1⟩
end Go.Proofs.Wk
