/- STRAIGHTNESS: the law of rejected points, walked. -/
import Derived.Test.YtjopphkhpmoedaaGreatDoorScH
namespace Go.Proofs.Wk
open Go.RowKit Mt

theorem giv_ok {ms : List St.Pt} (h0 : 0 < ms.length) (h : ms.length ≤ 64) (hin : ∀ p ∈ ms, St.InP p) : St.givP ms = 0 := by
  refine givP_ok ?_ (by omega)
  rw [chkP_all (by omega)]
  unfold allE
  rw [if_pos (List.all_eq_true.2 fun p hp => St.inB_iff.2 (hin p hp))]
theorem rej_facts {ls : List St.Pt} {t : Int} (hk : St.keeps ls t = false) : ∃ x, St.rej ls t = some x := by
  cases q : St.rej ls t with
  | some x => exact ⟨x, rfl⟩
  | none => rw [St.rej_none.1 q] at hk; cases hk
set_option maxRecDepth 100000 in
set_option maxHeartbeats 4000000 in
theorem rejects_no {v : Value} (ls : List St.Pt) (t : Int) (w : World) (hg : Good w) (S : SlX w v ls) (hln : ls.length ≤ 140737488355328) (h : ¬ (rightB ls = true ∧ ls.length ≤ 7)) :
    Calls Tryz.prog 6 #[v, .int .u8 t] w (Ret w (.bool true)) := by
  have HRI := Lib.hid (right_c ls w S hln)
  have HAW := Lib.hid (fun W (h : Below w.heap.size w W) => awake_c W (hg.later h))
  obtain ⟨sa, cap, rfl⟩ := S.len
  generalize rightB ls = q at *
  clear S hg
  generalize ls.length = n at *
  cases q with
  | false =>
    clear h
    go_enter Tryz.func6, Tryz.ntmps6
    go_wp2_with fail
    ((with_reducible refine (HRI.out).mono ?_); rintro e w1 ⟨rfl, hb1⟩)
    go_wp2_with fail
    ((with_reducible refine (HAW.out _ hb1).mono ?_); rintro e w2 ⟨rfl, hb2⟩)
    have hB2 := hb1.nx hb2
    go_wp2
    go_ret
    exact ⟨rfl, hB2⟩
  | true =>
    have h2 : ¬ n ≤ 7 := fun h2 => h ⟨rfl, h2⟩
    have z : (7 : Int) < (n : Int) := by omega
    clear h
    go_enter Tryz.func6, Tryz.ntmps6
    go_wp2_with fail
    ((with_reducible refine (HRI.out).mono ?_); rintro e w1 ⟨rfl, hb1⟩)
    go_wp2_with fail
    ((with_reducible refine (HAW.out _ hb1).mono ?_); rintro e w2 ⟨rfl, hb2⟩)
    have hB2 := hb1.nx hb2
    go_wp2
    go_ret
    exact ⟨rfl, hB2⟩
set_option maxRecDepth 100000 in
set_option maxHeartbeats 4000000 in
theorem rejects_keep {v : Value} (ls : List St.Pt) (t : Int) (w : World) (hg : Good w) (S : SlX w v ls) (hln : ls.length ≤ 140737488355328) (hr : rightB ls = true) (h7 : ls.length ≤ 7) (ht : 0 ≤ t ∧ t ≤ 255) (hk : St.keeps ls t = true) :
    Calls Tryz.prog 6 #[v, .int .u8 t] w (Ret w (.bool true)) := by
  obtain ⟨h0, h1, h8, hin⟩ := rightB_iff hr
  have HRI := Lib.hid (by have := right_c ls w S hln; rwa [hr] at this)
  have HAW := Lib.hid (fun W (h : Below w.heap.size w W) => awake_c W (hg.later h))
  have ht2 : 0 ≤ t ∧ t ≤ 100000 := by omega
  have HWI := Lib.hid (fun W (h : Below w.heap.size w W) => by have := Within_c ls t W (hg.later h) (S.later h) hln; rwa [withE_ok h0 ht2, hk] at this)
  have HRJ := Lib.hid (fun W (h : Below w.heap.size w W) => by have := Reject_c ls t W (hg.later h) (S.later h) hln; rwa [rejE_ok h0 ht2 (by omega), St.rej_none.2 hk] at this)
  have hw : IntKind.i64.wrap t = t := wr rfl (by omega)
  have z7 : (ls.length : Int) ≤ 7 := by omega
  obtain ⟨sa, cap, rfl⟩ := S.len
  clear S hg hin h0 hr hk
  go_enter Tryz.func6, Tryz.ntmps6
  go_wp2_with fail
  ((with_reducible refine (HRI.out).mono ?_); rintro e w1 ⟨rfl, hb1⟩)
  go_wp2_with fail
  ((with_reducible refine (HWI.out _ hb1).mono ?_); rintro e w2 ⟨rfl, hb2⟩)
  have hB2 := hb1.nx hb2
  go_wp2_with fail
  ((with_reducible refine (HRJ.out _ hB2).mono ?_); rintro e w3 ⟨u, rfl, hS, hb3⟩)
  have hB3 := hB2.nx hb3
  obtain ⟨ua, ucap, rfl⟩ := hS.lenN
  clear hS
  go_wp2_with fail
  ((with_reducible refine (HAW.out _ hB3).mono ?_); rintro e w4 ⟨rfl, hb4⟩)
  have hB4 := hB3.nx hb4
  go_wp2
  go_ret
  exact ⟨rfl, hB4⟩
end Go.Proofs.Wk
