/- SQUARENESS: points near the origin; slices.ContainsFunc with the laws' closures; points in space cloned. -/
import Derived.Test.YtenoganbeccanaaGreatDoorSdX
import Derived.Test.YtenoganbeccanaaGreatDoorNF
import Derived.Test.YtenoganbeccanaaGreatDoorKB
namespace Go.Proofs.Wk
open Go.RowKit Mt

/-- A point in space near the origin. -/
def near3 (p : Or.P3) : Bool := decide (-999 ≤ p.x ∧ p.x ≤ 999 ∧ -999 ≤ p.y ∧ p.y ≤ 999 ∧ -999 ≤ p.z ∧ p.z ≤ 999)
def far3 (p : Or.P3) : Bool := !near3 p
def farP (p : St.Pt) : Bool := !near3 ⟨p.x, p.y, 0⟩
theorem near3_is {p : Or.P3} : near3 p = true ↔ (-999 ≤ p.x ∧ p.x ≤ 999 ∧ -999 ≤ p.y ∧ p.y ≤ 999 ∧ -999 ≤ p.z ∧ p.z ≤ 999) := by
  unfold near3; rw [decide_eq_true_eq]
theorem far3_no {ls : List Or.P3} (h : ls.any far3 = false) : ∀ p ∈ ls, near3 p = true := by
  intro p hp
  have := List.any_eq_false.1 h p hp
  unfold far3 at this
  simpa using this
theorem farP_no {ls : List St.Pt} (h : ls.any farP = false) : ∀ p ∈ ls, near3 ⟨p.x, p.y, 0⟩ = true := by
  intro p hp
  have := List.any_eq_false.1 h p hp
  unfold farP at this
  simpa using this
set_option maxRecDepth 100000 in
set_option maxHeartbeats 1000000 in
theorem near_c (p : Or.P3) (w : World) : Calls Tryz.prog 46 #[spV p] w (Ret w (.bool (near3 p))) := by
  obtain ⟨x, y, z⟩ := p
  unfold near3
  have h0 := heap_alloc_new w (.cells #[.int .i64 x, .int .i64 y, .int .i64 z] 52)
  have hb := below_al w (.cells #[.int .i64 x, .int .i64 y, .int .i64 z] 52)
  rcases (by omega : x < -999 ∨ (-999 ≤ x ∧ 999 < x) ∨ ((-999 ≤ x ∧ x ≤ 999) ∧ y < -999) ∨ ((-999 ≤ x ∧ x ≤ 999) ∧ (-999 ≤ y ∧ 999 < y)) ∨ ((-999 ≤ x ∧ x ≤ 999) ∧ (-999 ≤ y ∧ y ≤ 999) ∧ z < -999) ∨ ((-999 ≤ x ∧ x ≤ 999) ∧ (-999 ≤ y ∧ y ≤ 999) ∧ (-999 ≤ z ∧ 999 < z)) ∨ ((-999 ≤ x ∧ x ≤ 999) ∧ (-999 ≤ y ∧ y ≤ 999) ∧ (-999 ≤ z ∧ z ≤ 999))) with h | ⟨h, h2⟩ | ⟨⟨h, h2⟩, h3⟩ | ⟨⟨h, h2⟩, h3, h4⟩ | ⟨⟨h, h2⟩, ⟨h3, h4⟩, h5⟩ | ⟨⟨h, h2⟩, ⟨h3, h4⟩, h5, h6⟩ | ⟨⟨h, h2⟩, ⟨h3, h4⟩, h5, h6⟩
  · rw [decide_eq_false (by simp only; omega)]
    go_enter Tryz.func46, Tryz.ntmps46; go_wp2; go_ret; refine ⟨ret_bool ?_, hb⟩; first | rfl | (simp; done) | (simp; omega)
  · rw [decide_eq_false (by simp only; omega)]
    go_enter Tryz.func46, Tryz.ntmps46; go_wp2; go_ret; refine ⟨ret_bool ?_, hb⟩; first | rfl | (simp; done) | (simp; omega)
  · rw [decide_eq_false (by simp only; omega)]
    go_enter Tryz.func46, Tryz.ntmps46; go_wp2; go_ret; refine ⟨ret_bool ?_, hb⟩; first | rfl | (simp; done) | (simp; omega)
  · rw [decide_eq_false (by simp only; omega)]
    go_enter Tryz.func46, Tryz.ntmps46; go_wp2; go_ret; refine ⟨ret_bool ?_, hb⟩; first | rfl | (simp; done) | (simp; omega)
  · rw [decide_eq_false (by simp only; omega)]
    go_enter Tryz.func46, Tryz.ntmps46; go_wp2; go_ret; refine ⟨ret_bool ?_, hb⟩; first | rfl | (simp; done) | (simp; omega)
  · rw [decide_eq_false (by simp only; omega)]
    go_enter Tryz.func46, Tryz.ntmps46; go_wp2; go_ret; refine ⟨ret_bool ?_, hb⟩; first | rfl | (simp; done) | (simp; omega)
  · rw [decide_eq_true (by simp only; omega)]
    go_enter Tryz.func46, Tryz.ntmps46; go_wp2; go_ret; refine ⟨ret_bool ?_, hb⟩; first | rfl | (simp; done) | (simp; omega)
theorem any_step3 {ls : List Or.P3} {P : Or.P3 → Bool} {i : Nat} (hi : i < ls.length) (h : (ls.take i).any P = false) (h2 : P (Or.at_ ls i) = false) : (ls.take (i + 1)).any P = false := by
  rw [List.take_succ_eq_append_getElem hi, List.any_append, h, ← Or.at_get hi]
  simp [h2]
theorem any_yes3 {ls : List Or.P3} {P : Or.P3 → Bool} {i : Nat} (hi : i < ls.length) (h2 : P (Or.at_ ls i) = true) : ls.any P = true := List.any_eq_true.2 ⟨_, Or.at_mem hi, h2⟩
set_option maxRecDepth 100000 in
set_option maxHeartbeats 1000000 in
theorem far_s3 (p : Or.P3) (w : World) : Calls Tryz.prog 52 #[spV p] w (Ret w (.bool (far3 p))) := by
  have HN := Lib.hid (fun W => near_c p W)
  unfold far3
  generalize near3 p = B at *
  obtain ⟨x, y, z⟩ := p
  obtain ⟨c0, c1, c2⟩ := c3row (heap_alloc_new w (.cells #[.int .i64 x, .int .i64 y, .int .i64 z] 52))
  have hb := below_al w (.cells #[.int .i64 x, .int .i64 y, .int .i64 z] 52)
  go_enter Tryz.func52, Tryz.ntmps52
  go_wp2_with fail
  generalize w.alloc (.cells #[.int .i64 x, .int .i64 y, .int .i64 z] 52) = W at *
  ((with_reducible refine (HN.out _).mono ?_); rintro e w1 ⟨rfl, hb1⟩)
  have hB := hb.nx hb1
  clear c0 c1 c2
  go_wp2
  go_ret
  exact ⟨rfl, hB⟩
set_option maxRecDepth 100000 in
set_option maxHeartbeats 1000000 in
theorem ixf_s3 {v : Value} (ls : List Or.P3) (P : Or.P3 → Bool) (w : World) (S : SlX w v ls) (hln : ls.length ≤ 140737488355328)
    (HF0 : ∀ p ∈ ls, ∀ W, Below w.heap.size w W → Calls Tryz.prog 52 #[spV p] W (Ret W (.bool (P p)))) :
    Calls Tryz.prog 113 #[v, .func (.func 52) #[] #[]] w (IxP w (ls.any P)) := by
  refine S.cases _ ?_ ?_
  · rintro a cap rfl rfl
    go_enter Tryz.func113, Tryz.ntmps113
    go_wp2_with fail
    refine wp_loop_rounds 1 ?_
    rw [rounds_succ]
    go_wp2
    go_ret
    exact ⟨_, rfl, rfl, Below.refl _ _⟩
  rintro b off cap rfl hp hR hb
  have HBAD := Lib.hid (fun i hi h => any_yes3 (ls := ls) (P := P) (i := i) hi h)
  have HR := Lib.hid hR
  have HF := Lib.hid (fun i (hi : i < ls.length) => HF0 _ (Or.at_mem hi))
  have HFIN := Lib.hid (show (ls.take ls.length).any P = false → ls.any P = false from fun h => by rwa [List.take_length] at h)
  generalize ls.any P = B at *
  clear hR HF0
  go_enter Tryz.func113, Tryz.ntmps113
  go_wp2_with fail
  go_loopw [8] (fun si wr => ∃ i : Nat, si = .int .i64 (i : Int) ∧ i ≤ ls.length ∧ Hid ((ls.take i).any P = false) ∧ Below w.heap.size w wr) (fun si _ => ls.length - (intOf si).toNat)
  case atStart => exact ⟨0, rfl, Nat.zero_le _, rfl, Below.refl _ _⟩
  case round =>
    obtain ⟨i, rfl, hi, ha, hB⟩ := hrel
    by_cases hlt : i < ls.length
    · obtain ⟨k0, k1, k2⟩ := (HR.out.later hB hb).sp hlt
      have hf := HF.out i hlt
      have hbad := HBAD.out i hlt
      have hstep := any_step3 hlt ha.out
      generalize Or.at_ ls i = p at *
      obtain ⟨x, y, z⟩ := p
      simp only at k0 k1 k2
      generalize P ⟨x, y, z⟩ = q at *
      have HF1 := Lib.hid hf
      clear hf
      cases q with
      | true =>
        obtain rfl : B = true := hbad rfl
        clear hbad hstep HBAD HFIN
        go_wp2_with fail
        ((with_reducible refine (HF1.out _ hB).mono ?_); rintro e w1 ⟨rfl, hb1⟩)
        go_wp2
        go_ret
        exact ⟨_, rfl, decide_eq_true (by omega), hB.nx hb1⟩
      | false =>
        have HS := Lib.hid (hstep rfl)
        clear hbad hstep
        go_wp2_with fail
        ((with_reducible refine (HF1.out _ hB).mono ?_); rintro e w1 ⟨rfl, hb1⟩)
        go_wp2
        go_roundw
        case rel => exact ⟨i + 1, by go_num, by omega, HS.out, hB.nx hb1⟩
        case measure => simp [intOf]; omega
    · obtain rfl : i = ls.length := by omega
      obtain rfl : B = false := HFIN.out ha.out
      clear ha HBAD HFIN
      go_wp2
      go_ret
      exact ⟨_, rfl, rfl, hB⟩
set_option maxRecDepth 100000 in
set_option maxHeartbeats 1000000 in
theorem cnf_s3 {v : Value} (ls : List Or.P3) (P : Or.P3 → Bool) (w : World) (S : SlX w v ls) (hln : ls.length ≤ 140737488355328)
    (HF0 : ∀ p ∈ ls, ∀ W, Below w.heap.size w W → Calls Tryz.prog 52 #[spV p] W (Ret W (.bool (P p)))) :
    Calls Tryz.prog 51 #[v, .func (.func 52) #[] #[]] w (Ret w (.bool (ls.any P))) := by
  have HI := Lib.hid (ixf_s3 ls P w S hln HF0)
  obtain ⟨sa, cap, rfl⟩ := S.lenS
  generalize ls.any P = B at *
  clear HF0 S
  go_enter Tryz.func51, Tryz.ntmps51
  go_wp2_with fail
  ((with_reducible refine (HI.out).mono ?_); rintro e w1 ⟨n, rfl, hn, hb1⟩)
  subst hn
  go_wp2
  go_ret
  exact ⟨rfl, hb1⟩
theorem cont_s3 {v : Value} (ls : List Or.P3) (w : World) (S : SlX w v ls) (hln : ls.length ≤ 140737488355328) :
    Calls Tryz.prog 51 #[v, .func (.func 52) #[] #[]] w (Ret w (.bool (ls.any far3))) := cnf_s3 ls far3 w S hln fun p _ W _ => far_s3 p W
set_option maxRecDepth 100000 in
set_option maxHeartbeats 1000000 in
theorem far_l3 (p : Or.P3) (w : World) : Calls Tryz.prog 57 #[spV p] w (Ret w (.bool (far3 p))) := by
  have HN := Lib.hid (fun W => near_c p W)
  unfold far3
  generalize near3 p = B at *
  obtain ⟨x, y, z⟩ := p
  obtain ⟨c0, c1, c2⟩ := c3row (heap_alloc_new w (.cells #[.int .i64 x, .int .i64 y, .int .i64 z] 52))
  have hb := below_al w (.cells #[.int .i64 x, .int .i64 y, .int .i64 z] 52)
  go_enter Tryz.func57, Tryz.ntmps57
  go_wp2_with fail
  generalize w.alloc (.cells #[.int .i64 x, .int .i64 y, .int .i64 z] 52) = W at *
  ((with_reducible refine (HN.out _).mono ?_); rintro e w1 ⟨rfl, hb1⟩)
  have hB := hb.nx hb1
  clear c0 c1 c2
  go_wp2
  go_ret
  exact ⟨rfl, hB⟩
set_option maxRecDepth 100000 in
set_option maxHeartbeats 1000000 in
theorem ixf_l3 {v : Value} (ls : List Or.P3) (P : Or.P3 → Bool) (w : World) (S : SlX w v ls) (hln : ls.length ≤ 140737488355328)
    (HF0 : ∀ p ∈ ls, ∀ W, Below w.heap.size w W → Calls Tryz.prog 57 #[spV p] W (Ret W (.bool (P p)))) :
    Calls Tryz.prog 113 #[v, .func (.func 57) #[] #[]] w (IxP w (ls.any P)) := by
  refine S.cases _ ?_ ?_
  · rintro a cap rfl rfl
    go_enter Tryz.func113, Tryz.ntmps113
    go_wp2_with fail
    refine wp_loop_rounds 1 ?_
    rw [rounds_succ]
    go_wp2
    go_ret
    exact ⟨_, rfl, rfl, Below.refl _ _⟩
  rintro b off cap rfl hp hR hb
  have HBAD := Lib.hid (fun i hi h => any_yes3 (ls := ls) (P := P) (i := i) hi h)
  have HR := Lib.hid hR
  have HF := Lib.hid (fun i (hi : i < ls.length) => HF0 _ (Or.at_mem hi))
  have HFIN := Lib.hid (show (ls.take ls.length).any P = false → ls.any P = false from fun h => by rwa [List.take_length] at h)
  generalize ls.any P = B at *
  clear hR HF0
  go_enter Tryz.func113, Tryz.ntmps113
  go_wp2_with fail
  go_loopw [8] (fun si wr => ∃ i : Nat, si = .int .i64 (i : Int) ∧ i ≤ ls.length ∧ Hid ((ls.take i).any P = false) ∧ Below w.heap.size w wr) (fun si _ => ls.length - (intOf si).toNat)
  case atStart => exact ⟨0, rfl, Nat.zero_le _, rfl, Below.refl _ _⟩
  case round =>
    obtain ⟨i, rfl, hi, ha, hB⟩ := hrel
    by_cases hlt : i < ls.length
    · obtain ⟨k0, k1, k2⟩ := (HR.out.later hB hb).sp hlt
      have hf := HF.out i hlt
      have hbad := HBAD.out i hlt
      have hstep := any_step3 hlt ha.out
      generalize Or.at_ ls i = p at *
      obtain ⟨x, y, z⟩ := p
      simp only at k0 k1 k2
      generalize P ⟨x, y, z⟩ = q at *
      have HF1 := Lib.hid hf
      clear hf
      cases q with
      | true =>
        obtain rfl : B = true := hbad rfl
        clear hbad hstep HBAD HFIN
        go_wp2_with fail
        ((with_reducible refine (HF1.out _ hB).mono ?_); rintro e w1 ⟨rfl, hb1⟩)
        go_wp2
        go_ret
        exact ⟨_, rfl, decide_eq_true (by omega), hB.nx hb1⟩
      | false =>
        have HS := Lib.hid (hstep rfl)
        clear hbad hstep
        go_wp2_with fail
        ((with_reducible refine (HF1.out _ hB).mono ?_); rintro e w1 ⟨rfl, hb1⟩)
        go_wp2
        go_roundw
        case rel => exact ⟨i + 1, by go_num, by omega, HS.out, hB.nx hb1⟩
        case measure => simp [intOf]; omega
    · obtain rfl : i = ls.length := by omega
      obtain rfl : B = false := HFIN.out ha.out
      clear ha HBAD HFIN
      go_wp2
      go_ret
      exact ⟨_, rfl, rfl, hB⟩
set_option maxRecDepth 100000 in
set_option maxHeartbeats 1000000 in
theorem cnf_l3 {v : Value} (ls : List Or.P3) (P : Or.P3 → Bool) (w : World) (S : SlX w v ls) (hln : ls.length ≤ 140737488355328)
    (HF0 : ∀ p ∈ ls, ∀ W, Below w.heap.size w W → Calls Tryz.prog 57 #[spV p] W (Ret W (.bool (P p)))) :
    Calls Tryz.prog 51 #[v, .func (.func 57) #[] #[]] w (Ret w (.bool (ls.any P))) := by
  have HI := Lib.hid (ixf_l3 ls P w S hln HF0)
  obtain ⟨sa, cap, rfl⟩ := S.lenS
  generalize ls.any P = B at *
  clear HF0 S
  go_enter Tryz.func51, Tryz.ntmps51
  go_wp2_with fail
  ((with_reducible refine (HI.out).mono ?_); rintro e w1 ⟨n, rfl, hn, hb1⟩)
  subst hn
  go_wp2
  go_ret
  exact ⟨rfl, hb1⟩
theorem cont_l3 {v : Value} (ls : List Or.P3) (w : World) (S : SlX w v ls) (hln : ls.length ≤ 140737488355328) :
    Calls Tryz.prog 51 #[v, .func (.func 57) #[] #[]] w (Ret w (.bool (ls.any far3))) := cnf_l3 ls far3 w S hln fun p _ W _ => far_l3 p W
set_option maxRecDepth 100000 in
set_option maxHeartbeats 1000000 in
theorem far_i (p : St.Pt) (w : World) : Calls Tryz.prog 45 #[ptV p] w (Ret w (.bool (farP p))) := by
  have HN := Lib.hid (fun W => near_c ⟨p.x, p.y, 0⟩ W)
  unfold farP
  generalize near3 ⟨p.x, p.y, 0⟩ = B at *
  obtain ⟨x, y⟩ := p
  obtain ⟨c0, c1⟩ := c2row (heap_alloc_new w (.cells #[.int .i64 x, .int .i64 y] 42))
  have hb := below_al w (.cells #[.int .i64 x, .int .i64 y] 42)
  go_enter Tryz.func45, Tryz.ntmps45
  go_wp2_with fail
  generalize w.alloc (.cells #[.int .i64 x, .int .i64 y] 42) = W at *
  ((with_reducible refine (HN.out _).mono ?_); rintro e w1 ⟨rfl, hb1⟩)
  have hB := hb.nx hb1
  clear c0 c1
  go_wp2
  go_ret
  exact ⟨rfl, hB⟩
set_option maxRecDepth 100000 in
set_option maxHeartbeats 1000000 in
theorem ixf_i3 {v : Value} (ls : List St.Pt) (P : St.Pt → Bool) (w : World) (S : SlX w v ls) (hln : ls.length ≤ 140737488355328)
    (HF0 : ∀ p ∈ ls, ∀ W, Below w.heap.size w W → Calls Tryz.prog 45 #[ptV p] W (Ret W (.bool (P p)))) :
    Calls Tryz.prog 105 #[v, .func (.func 45) #[] #[]] w (IxP w (ls.any P)) := by
  refine S.cases _ ?_ ?_
  · rintro a cap rfl rfl
    go_enter Tryz.func105, Tryz.ntmps105
    go_wp2_with fail
    refine wp_loop_rounds 1 ?_
    rw [rounds_succ]
    go_wp2
    go_ret
    exact ⟨_, rfl, rfl, Below.refl _ _⟩
  rintro b off cap rfl hp hR hb
  have HBAD := Lib.hid (fun i hi h => any_yes (ls := ls) (P := P) (i := i) hi h)
  have HR := Lib.hid hR
  have HF := Lib.hid (fun i (hi : i < ls.length) => HF0 _ (St.at_mem hi))
  have HFIN := Lib.hid (show (ls.take ls.length).any P = false → ls.any P = false from fun h => by rwa [List.take_length] at h)
  generalize ls.any P = B at *
  clear hR HF0
  go_enter Tryz.func105, Tryz.ntmps105
  go_wp2_with fail
  go_loopw [8] (fun si wr => ∃ i : Nat, si = .int .i64 (i : Int) ∧ i ≤ ls.length ∧ Hid ((ls.take i).any P = false) ∧ Below w.heap.size w wr) (fun si _ => ls.length - (intOf si).toNat)
  case atStart => exact ⟨0, rfl, Nat.zero_le _, rfl, Below.refl _ _⟩
  case round =>
    obtain ⟨i, rfl, hi, ha, hB⟩ := hrel
    by_cases hlt : i < ls.length
    · obtain ⟨k0, k1⟩ := (HR.out.later hB hb).pt hlt
      have hf := HF.out i hlt
      have hbad := HBAD.out i hlt
      have hstep := any_step hlt ha.out
      generalize St.at_ ls i = p at *
      obtain ⟨x, y⟩ := p
      simp only at k0 k1
      generalize P ⟨x, y⟩ = q at *
      have HF1 := Lib.hid hf
      clear hf
      cases q with
      | true =>
        obtain rfl : B = true := hbad rfl
        clear hbad hstep HBAD HFIN
        go_wp2_with fail
        ((with_reducible refine (HF1.out _ hB).mono ?_); rintro e w1 ⟨rfl, hb1⟩)
        go_wp2
        go_ret
        exact ⟨_, rfl, decide_eq_true (by omega), hB.nx hb1⟩
      | false =>
        have HS := Lib.hid (hstep rfl)
        clear hbad hstep
        go_wp2_with fail
        ((with_reducible refine (HF1.out _ hB).mono ?_); rintro e w1 ⟨rfl, hb1⟩)
        go_wp2
        go_roundw
        case rel => exact ⟨i + 1, by go_num, by omega, HS.out, hB.nx hb1⟩
        case measure => simp [intOf]; omega
    · obtain rfl : i = ls.length := by omega
      obtain rfl : B = false := HFIN.out ha.out
      clear ha HBAD HFIN
      go_wp2
      go_ret
      exact ⟨_, rfl, rfl, hB⟩
set_option maxRecDepth 100000 in
set_option maxHeartbeats 1000000 in
theorem cnf_i3 {v : Value} (ls : List St.Pt) (P : St.Pt → Bool) (w : World) (S : SlX w v ls) (hln : ls.length ≤ 140737488355328)
    (HF0 : ∀ p ∈ ls, ∀ W, Below w.heap.size w W → Calls Tryz.prog 45 #[ptV p] W (Ret W (.bool (P p)))) :
    Calls Tryz.prog 44 #[v, .func (.func 45) #[] #[]] w (Ret w (.bool (ls.any P))) := by
  have HI := Lib.hid (ixf_i3 ls P w S hln HF0)
  obtain ⟨sa, cap, rfl⟩ := S.len
  generalize ls.any P = B at *
  clear HF0 S
  go_enter Tryz.func44, Tryz.ntmps44
  go_wp2_with fail
  ((with_reducible refine (HI.out).mono ?_); rintro e w1 ⟨n, rfl, hn, hb1⟩)
  subst hn
  go_wp2
  go_ret
  exact ⟨rfl, hb1⟩
theorem cont_i3 {v : Value} (ls : List St.Pt) (w : World) (S : SlX w v ls) (hln : ls.length ≤ 140737488355328) :
    Calls Tryz.prog 44 #[v, .func (.func 45) #[] #[]] w (Ret w (.bool (ls.any farP))) := cnf_i3 ls farP w S hln fun p _ W _ => far_i p W
abbrev spZ : Value := .agg #[.int .i64 0, .int .i64 0, .int .i64 0]
/-- A clone of points in space. -/
def ClnS (w : World) (xs : List Or.P3) (e : Ending) (w' : World) : Prop := ∃ v', e = .returned v' ∧ OwX 52 w' w.heap.size v' xs ∧ Below w.heap.size w w'
set_option maxRecDepth 100000 in
theorem cloneS_c {v : Value} (xs : List Or.P3) (w : World) (S : SlX w v xs) (h0 : 0 < xs.length) (hn : xs.length ≤ 1000) : Calls Tryz.prog 53 #[v] w (ClnS w xs) := by
  refine S.cases _ ?_ ?_
  · rintro a cap rfl rfl
    simp at h0
  rintro b off cap rfl hp hR hb
  have HS := Lib.hid S
  have HN := Lib.hid (show xs.length * 24 ≤ 140737488355328 by omega)
  have hnil := fun (W : World) => Lib.run_eql_slice_nil (P := Tryz.prog) W 50 52 (some ⟨b, off, none⟩) xs.length cap 0 0 Tryz.underlying50
  clear S hR
  go_enter Tryz.func53, Tryz.ntmps53
  go_wp2_with (at_builtin; refine wpList_clone_row rfl _ _ 50 52 rfl Tryz.underlying50 spZ 24 (by decide) (by kernel_rfl) rfl w.heap.size _ xs _ rfl rfl HN.out (HS.out.later ((Below.refl _ _).alloc (Nat.le_refl _) _)) (Nat.le_of_lt (alloc_lt _ _)) ?_; rintro v' w' h1 h2)
  go_ret
  refine ⟨_, rfl, ?_, ((Below.refl _ _).alloc (Nat.le_refl _) _).trans h2⟩
  rcases h1 with ⟨rfl, -⟩ | h1
  · simp at h0
  · exact h1
end Go.Proofs.Wk
