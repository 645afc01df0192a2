/- THE LAW RegisterKeeps: the search for a lot by its name. -/
import Derived.Test.YtffmhlaenfecgaaGreatDoorLgR
import Derived.Test.YtffmhlaenfecgaaGreatDoorLgP
namespace Go.Proofs.Wk
open Go.RowKit Mt

/-- The number of the first lot of a name. -/
def IxN (w : World) (ls : List Rg.Lt) (nm : Txt) (e : Ending) (w' : World) : Prop := ∃ i : Int, e = .returned (.int .i64 i) ∧ ((i = -1 ∧ Rg.look ls nm = none) ∨ ∃ k, ∃ hk : k < ls.length, i = (k : Int) ∧ Rg.look ls nm = some ls[k]) ∧ Below w.heap.size w w'
set_option maxRecDepth 100000 in
theorem keep1_c (x : Rg.Lt) (ab : Nat) (nm : Txt) (w : World) (hc : w.cell? ⟨ab, 0, none⟩ = some (.string ⟨nm.toArray⟩)) :
    Calls Tryz.prog 25 #[lotV x, .pointer (some ⟨ab, 0, none⟩)] w (Ret w (.bool (x.nm == nm))) := by
  obtain ⟨a, sz, gd, bd, cn, sc, st⟩ := x
  have hB : Below w.heap.size w (w.alloc (.cells #[.string ⟨a.toArray⟩, .int .i64 sz, .int .i64 gd, .int .i64 bd, .int .i64 cn, .int .i64 sc, .int .i64 st] 57)) := (Below.refl _ _).alloc (Nat.le_refl _) _
  have hc2 := hc
  rw [← hB.cell (p := ⟨ab, 0, none⟩) (World.block_lt_of_cell? w _ hc)] at hc2
  have hc0 := hc2
  clear hc
  go_enter Tryz.func25, Tryz.ntmps25
  go_wp2
  go_ret
  exact ⟨rfl, hB⟩
set_option maxRecDepth 100000 in
set_option maxHeartbeats 1000000 in
theorem ixN_c {v : Value} (ls : List Rg.Lt) (nm : Txt) (ab : Nat) (w : World) (S : SlX w v ls) (hc : w.cell? ⟨ab, 0, none⟩ = some (.string ⟨nm.toArray⟩)) (hln : ls.length ≤ 140737488355328) :
    Calls Tryz.prog 24 #[v, .func (.func 25) #[] #[.pointer (some ⟨ab, 0, none⟩)]] w (IxN w ls nm) := by
  refine S.cases _ ?_ ?_
  · rintro a cap rfl rfl
    clear S hc
    go_enter Tryz.func24, Tryz.ntmps24
    go_wp2_with fail
    refine wp_loop_rounds 1 ?_
    rw [rounds_succ]
    go_wp2
    go_ret
    exact ⟨_, rfl, .inl ⟨rfl, rfl⟩, Below.refl _ _⟩
  rintro b off cap rfl hp hR hb
  have hab : ab < w.heap.size := World.block_lt_of_cell? w _ hc
  have HR := Lib.hid hR
  have HC := Lib.hid hc
  clear S hR hc
  go_enter Tryz.func24, Tryz.ntmps24
  go_wp2_with fail
  go_loopw [8] (fun si wr => ∃ i : Nat, si = .int .i64 (i : Int) ∧ i ≤ ls.length ∧ Hid (∀ j, (q : j < i) → (h : j < ls.length) → ls[j].nm ≠ nm) ∧ Below w.heap.size w wr) (fun si _ => ls.length - (intOf si).toNat)
  case atStart => exact ⟨0, rfl, Nat.zero_le _, fun j q => absurd q (Nat.not_lt_zero _), Below.refl _ _⟩
  case round =>
    obtain ⟨i, rfl, hi, hE, hB⟩ := hrel
    by_cases hlt : i < ls.length
    · obtain ⟨k0, k1, k2, k3, k4, k5, k6⟩ := (HR.out.later hB hb).lot hlt
      have hcw := hB.cell (p := ⟨ab, 0, none⟩) hab
      rw [HC.out] at hcw
      have HF := Lib.hid (keep1_c ls[i] ab nm wr hcw)
      have hyes := fun (e : ls[i].nm = nm) => look_at hlt (fun j q => hE.out j q (by omega)) e
      have hno := fun (e : ls[i].nm ≠ nm) j (q : j < i + 1) (h : j < ls.length) => show ls[j].nm ≠ nm from by
        by_cases z : j = i
        · subst z; exact e
        · exact hE.out j (by omega) h
      have HY := Lib.hid hyes
      have HNO := Lib.hid hno
      clear hyes hno hcw hE
      generalize hx : ls[i] = x at *
      have HXL := Lib.hid hx
      clear hx
      obtain ⟨a, sz, gd, bd, cn, sc, st⟩ := x
      simp only at k0 k1 k2 k3 k4 k5 k6 HF HY HNO
      by_cases h : a = nm
      · have hL := Lib.hid (HY.out h)
        rw [beq_iff_eq.2 h] at HF
        clear HY HNO h
        go_wp2_with fail
        ((with_reducible refine (HF.out).mono ?_); rintro e w2 ⟨rfl, hb2⟩)
        have hB2 := hB.trans (hb2.mono hB.size)
        go_wp2
        go_ret
        exact ⟨_, rfl, .inr ⟨i, hlt, by go_num, by rw [hL.out, HXL.out]⟩, hB2⟩
      · have hL := Lib.hid (HNO.out h)
        rw [beq_eq_false_iff_ne.2 h] at HF
        clear HY HNO h
        go_wp2_with fail
        ((with_reducible refine (HF.out).mono ?_); rintro e w2 ⟨rfl, hb2⟩)
        have hB2 := hB.trans (hb2.mono hB.size)
        go_wp2
        go_roundw
        case rel => exact ⟨i + 1, by go_num, by omega, hL, hB2⟩
        case measure => simp [intOf]; omega
    · have HN := Lib.hid (look_no (ls := ls) (nm := nm) fun j q => hE.out j (by omega) q)
      clear hE
      go_wp2
      go_ret
      exact ⟨_, rfl, .inl ⟨rfl, HN.out⟩, hB⟩
end Go.Proofs.Wk
