/- LINEAR PROGRAMS: the columns that make the goal greater, and the first of them. -/
import Derived.Test.YtcdjhgkeehhaaaaGreatDoorUB
import Derived.Test.YtcdjhgkeehhaaaaGreatDoorRng
import Derived.RangeFuncBound
import Derived.Shelf.Abstract
import Derived.Shelf.RegionOpen
import Derived.OwnWalkIn
import Derived.TacticsInMore
import Derived.LoopNIn
import Derived.LoopIn
import Derived.Stop.RegionWithIn
import Derived.Test.YtcdjhgkeehhaaaaGreatDoorUA
import Derived.Deep.RegionLaw
namespace Go.Proofs.Wk
open Go.RowKit Go.Rng Mt
attribute [local go_sem] Oper.semAt_some

def ColP (gt : Nat) (ban : Int) (W : World) (e : Ending) (W' : World) : Prop :=
  e = .returned (.func (.func 148) #[] #[.pointer (some ⟨W.heap.size, 0, none⟩), .pointer (some ⟨W.heap.size + 1, 0, none⟩)]) ∧ W' = (W.alloc (.cells #[.pointer (some ⟨gt, 0, none⟩)] 128)).alloc (.cells #[.int .i64 ban] 3)
set_option maxRecDepth 100000 in
theorem columns_c (gt : Nat) (ban : Int) (W : World) : Calls Tryz.prog 110 #[.pointer (some ⟨gt, 0, none⟩), .int .i64 ban] W (ColP gt ban W) := by
  go_enter Tryz.func110, Tryz.ntmps110
  go_wp2
  go_ret
  exact ⟨rfl, rfl⟩
/-- How the iterator ends. -/
def ClE (J : World → Prop) (Jx : Nat → World → Prop) (o : Option Nat) (e : Ending) (w : World) : Prop := (∃ v, e = .returned v) ∧ match o with
  | none => J w
  | some c => Jx c w
def ClY (Jx : Nat → World → Prop) (c : Nat) (e : Ending) (w : World) : Prop := e = .returned (.bool false) ∧ Jx c w
set_option maxRecDepth 100000 in
set_option linter.unusedSimpArgs false in
set_option maxHeartbeats 4000000 in
theorem cols_in {w0 : World} (hg : Good w0) {ad : Nat → Nat} {cr cb : Nat} {t : Lp.Tab} (ht : Lp.SmT t) (ct cbn l : Nat) (ban : Int) (J : World → Prop) (Jx : Nat → World → Prop) (hJ : ∀ W1 W2, J W1 → Below W1.heap.size W1 W2 → J W2)
    (hJc : ∀ W1, J W1 → TB w0 ad cr cb W1 (tX t) t.bas ∧ W1.cell? ⟨ct, 0, none⟩ = some (.pointer (some ⟨ad 10, 0, none⟩)) ∧ W1.cell? ⟨cbn, 0, none⟩ = some (.int .i64 ban))
    (hgo : ∀ (c : Nat) W1, J W1 → YieldAt Fence.wide 0 Tryz.prog l #[.int .i64 ((c : Nat) : Int)] W1 (ClY Jx c)) (W : World) (hj : J W) :
    CallsIn Fence.wide 0 Tryz.prog 148 #[.func (.yield l) #[] #[], .pointer (some ⟨ct, 0, none⟩), .pointer (some ⟨cbn, 0, none⟩)] W (ClE J Jx (Lp.colF t.goal ban 15 0)) := by
  obtain ⟨E, hE⟩ : ∃ E, Lp.colF t.goal ban 15 0 = E := ⟨_, rfl⟩
  rw [hE]
  have HE := Lib.hid hE
  have HJ0 := Lib.hid hj
  have HJS := Lib.hid hJ
  have HJC := Lib.hid hJc
  have HGO := Lib.hid hgo
  have HWD := Lib.hid (fun W1 (h : J W1) => pwidth_c (hJc W1 h).1)
  have HSG := Lib.hid (fun k (hk : k < 16) W1 (h : J W1) => psign_c (sm_sz (Lp.smL_at ht.goal hk)) (by omega) (ad 9) W1 ((hJc W1 h).1.good hg) (hJc W1 h).1.sum)
  have HJD := Lib.hid (fun W1 (h : J W1) => (hJ W1 W1.drew h (Below.refl _ _).drew : J W1.drew))
  have HCL := Lib.hid (fun k (hk : k < 16) W1 (h : J W1) => (by
    have q := (hJc W1 h).1.cell (show 6 < 7 by omega) hk
    rwa [tX_goal] at q : W1.cell? ⟨ad 6, k, none⟩ = some ((Value.string ⟨(rtoa (Lp.at_ t.goal k)).toArray⟩))))
  have HSP := Lib.hid (fun k => sgnQ_spec (Lp.at_ t.goal k))
  obtain ⟨-, b0, -⟩ := hJc _ hj
  clear hE hj hJ hJc hgo
  refine callsIn_of_wp Tryz.func148 rfl trivial ?_
  simp only [Tryz.ntmps148, List.size_toArray, List.length_cons, List.length_nil, Nat.reduceAdd, Nat.reduceSub, Array.replicate_succ, Array.replicate_zero, List.push_toArray, List.append_toArray, List.nil_append, List.cons_append]
  gi_wp2_with fail
  refine ⟨trivial, rfl, ?_⟩
  refine (callsIn_wide.2 (HWD.out _ HJ0.out)).mono ?_
  rintro e w2 ⟨rfl, rfl⟩
  have HJ1 := Lib.hid (HJD.out _ HJ0.out)
  clear HJ0 HWD b0
  gi_wp2_with fail
  gi_loopw [7] (fun si wr => ∃ k : Nat, si = .int .i64 (k : Int) ∧ k ≤ 15 ∧ Hid (Lp.colF t.goal ban (15 - k) k = E) ∧ Hid (J wr)) (fun si _ => 15 - (intOf si).toNat)
  case atStart => exact ⟨0, rfl, Nat.zero_le _, HE.out, HJ1.out⟩
  case round =>
    obtain ⟨k, rfl, hk, hs, hjw⟩ := hrel
    clear HE HJ1
    by_cases hlt : k < 15
    · obtain ⟨T, b1, b2⟩ := HJC.out _ hjw.out
      obtain ⟨t0, -, -, -, -, t5⟩ := T.tcell
      have g1 := HCL.out k (by omega) _ hjw.out
      have i4 : (0 : Int) ≤ (k : Int) := by omega
      have i5 : (k : Int) < 16 := by omega
      have hsp := HSP.out k
      have hst := hs.out
      rw [show 15 - k = (15 - (k + 1)) + 1 by omega] at hst
      clear T
      by_cases hkb : (k : Int) = ban
      · have y1 : ((k : Int) != ban) = false := by rw [hkb]; simp
        have HST := Lib.hid ((Lp.colF_no (n := 15 - (k + 1)) (fun h => h.1 hkb)).symm.trans hst)
        have HJ2 := Lib.hid (HJD.out _ hjw.out)
        clear hst hs hkb HSG HGO HJS HCL HSP hsp HJD HJC hjw
        have HALL := Lib.hid (show wr.drew.cell? ⟨cbn, 0, none⟩ = some (.int .i64 ban) from b2)
        gi_wp2_with fail
        refine (wpIn_wide (n := 0)).2 ?_
        refine Go.Front.wp_region_front (S := fun V => V.cell? ⟨cbn, 0, none⟩ = some (.int .i64 ban)) 23 (by kernel_rfl) (by simp) (by kernel_rfl) (by kernel_rfl) (by kernel_rfl) (by kernel_rfl) ?_ (fun hHeld => ?_)
        · (with_reducible exact HALL.out)
        simp only [List.take_succ_cons, List.take_zero, List.drop_succ_cons, List.drop_zero]
        refine wpAnyH_take (i := 0) (v := ?_) rfl (by kernel_rfl) (by kernel_rfl) (by kernel_rfl) (fun _ _ _ h => h) (Or.inl ⟨by rfl, ?_⟩) hHeld ?_
        rotate_left
        · intro W hSw; (try dsimp only at hSw); go_simp <;> with_reducible rfl
        (try simp only [Act.put, List.setIfInBounds_toArray, List.set_cons_zero, List.set_cons_succ])
        refine wpAnyH_take (i := 1) (v := ?_) rfl (by kernel_rfl) (by kernel_rfl) (by kernel_rfl) (fun _ _ _ h => h) (Or.inl ⟨by rfl, ?_⟩) hHeld ?_
        rotate_left
        · intro W hSw; (try dsimp only at hSw); go_simp <;> with_reducible rfl
        (try simp only [Act.put, List.setIfInBounds_toArray, List.set_cons_zero, List.set_cons_succ])
        refine wpAnyH_take (i := 2) (v := ?_) rfl (by kernel_rfl) (by kernel_rfl) (by kernel_rfl) (fun _ _ _ h => h) (Or.inl ⟨by rfl, ?_⟩) hHeld ?_
        rotate_left
        · intro W hSw; (try dsimp only at hSw); go_simp <;> with_reducible rfl
        (try simp only [Act.put, List.setIfInBounds_toArray, List.set_cons_zero, List.set_cons_succ])
        refine wpAnyH_take (i := 3) (v := ?_) rfl (by kernel_rfl) (by kernel_rfl) (by kernel_rfl) (fun _ _ _ h => h) (Or.inl ⟨by rfl, ?_⟩) hHeld ?_
        rotate_left
        · intro W hSw; (try dsimp only at hSw); go_simp <;> with_reducible rfl
        (try simp only [Act.put, List.setIfInBounds_toArray, List.set_cons_zero, List.set_cons_succ])
        refine wpAnyH_take (i := 4) (v := undef) rfl (by kernel_rfl) (by kernel_rfl) (by kernel_rfl) (fun _ _ _ h => h) (Or.inr ⟨by kernel_rfl, rfl⟩) hHeld ?_
        (try simp only [Act.put, List.setIfInBounds_toArray, List.set_cons_zero, List.set_cons_succ])
        refine wpAnyH_take (i := 5) (v := undef) rfl (by kernel_rfl) (by kernel_rfl) (by kernel_rfl) (fun _ _ _ h => h) (Or.inr ⟨by kernel_rfl, rfl⟩) hHeld ?_
        (try simp only [Act.put, List.setIfInBounds_toArray, List.set_cons_zero, List.set_cons_succ])
        refine wpAnyH_take (i := 6) (v := undef) rfl (by kernel_rfl) (by kernel_rfl) (by kernel_rfl) (fun _ _ _ h => h) (Or.inr ⟨by kernel_rfl, rfl⟩) hHeld ?_
        (try simp only [Act.put, List.setIfInBounds_toArray, List.set_cons_zero, List.set_cons_succ])
        refine wpAnyH_take (i := 7) (v := undef) rfl (by kernel_rfl) (by kernel_rfl) (by kernel_rfl) (fun _ _ _ h => h) (Or.inr ⟨by kernel_rfl, rfl⟩) hHeld ?_
        (try simp only [Act.put, List.setIfInBounds_toArray, List.set_cons_zero, List.set_cons_succ])
        refine wpAnyH_take (i := 8) (v := undef) rfl (by kernel_rfl) (by kernel_rfl) (by kernel_rfl) (fun _ _ _ h => h) (Or.inr ⟨by kernel_rfl, rfl⟩) hHeld ?_
        (try simp only [Act.put, List.setIfInBounds_toArray, List.set_cons_zero, List.set_cons_succ])
        refine wpAnyH_take (i := 9) (v := undef) rfl (by kernel_rfl) (by kernel_rfl) (by kernel_rfl) (fun _ _ _ h => h) (Or.inr ⟨by kernel_rfl, rfl⟩) hHeld ?_
        (try simp only [Act.put, List.setIfInBounds_toArray, List.set_cons_zero, List.set_cons_succ])
        refine wpAnyH_take (i := 10) (v := undef) rfl (by kernel_rfl) (by kernel_rfl) (by kernel_rfl) (fun _ _ _ h => h) (Or.inr ⟨by kernel_rfl, rfl⟩) hHeld ?_
        (try simp only [Act.put, List.setIfInBounds_toArray, List.set_cons_zero, List.set_cons_succ])
        refine wpAnyH_take (i := 11) (v := undef) rfl (by kernel_rfl) (by kernel_rfl) (by kernel_rfl) (fun _ _ _ h => h) (Or.inr ⟨by kernel_rfl, rfl⟩) hHeld ?_
        (try simp only [Act.put, List.setIfInBounds_toArray, List.set_cons_zero, List.set_cons_succ])
        refine wpAnyH_take (i := 12) (v := undef) rfl (by kernel_rfl) (by kernel_rfl) (by kernel_rfl) (fun _ _ _ h => h) (Or.inr ⟨by kernel_rfl, rfl⟩) hHeld ?_
        (try simp only [Act.put, List.setIfInBounds_toArray, List.set_cons_zero, List.set_cons_succ])
        refine wpAnyH_take (i := 13) (v := undef) rfl (by kernel_rfl) (by kernel_rfl) (by kernel_rfl) (fun _ _ _ h => h) (Or.inr ⟨by kernel_rfl, rfl⟩) hHeld ?_
        (try simp only [Act.put, List.setIfInBounds_toArray, List.set_cons_zero, List.set_cons_succ])
        refine wpAnyH_take (i := 14) (v := undef) rfl (by kernel_rfl) (by kernel_rfl) (by kernel_rfl) (fun _ _ _ h => h) (Or.inr ⟨by kernel_rfl, rfl⟩) hHeld ?_
        (try simp only [Act.put, List.setIfInBounds_toArray, List.set_cons_zero, List.set_cons_succ])
        refine wpAnyH_take (i := 15) (v := undef) rfl (by kernel_rfl) (by kernel_rfl) (by kernel_rfl) (fun _ _ _ h => h) (Or.inr ⟨by kernel_rfl, rfl⟩) hHeld ?_
        (try simp only [Act.put, List.setIfInBounds_toArray, List.set_cons_zero, List.set_cons_succ])
        refine wpAnyH_take (i := 16) (v := undef) rfl (by kernel_rfl) (by kernel_rfl) (by kernel_rfl) (fun _ _ _ h => h) (Or.inr ⟨by kernel_rfl, rfl⟩) hHeld ?_
        (try simp only [Act.put, List.setIfInBounds_toArray, List.set_cons_zero, List.set_cons_succ])
        refine wpAnyH_take (i := 17) (v := ?_) rfl (by kernel_rfl) (by kernel_rfl) (by kernel_rfl) (fun _ _ _ h => h) (Or.inl ⟨by rfl, ?_⟩) hHeld ?_
        rotate_left
        · intro W hSw; (try dsimp only at hSw); go_simp <;> with_reducible rfl
        (try simp only [Act.put, List.setIfInBounds_toArray, List.set_cons_zero, List.set_cons_succ])
        refine wpAnyH_take (i := 18) (v := ?_) rfl (by kernel_rfl) (by kernel_rfl) (by kernel_rfl) (fun _ _ _ h => h) (Or.inl ⟨by rfl, ?_⟩) hHeld ?_
        rotate_left
        · intro W hSw; (try dsimp only at hSw); go_simp <;> with_reducible rfl
        (try simp only [Act.put, List.setIfInBounds_toArray, List.set_cons_zero, List.set_cons_succ])
        refine wpAnyH_take (i := 19) (v := undef) rfl (by kernel_rfl) (by kernel_rfl) (by kernel_rfl) (fun _ _ _ h => h) (Or.inr ⟨by kernel_rfl, rfl⟩) hHeld ?_
        (try simp only [Act.put, List.setIfInBounds_toArray, List.set_cons_zero, List.set_cons_succ])
        refine wpAnyH_take (i := 20) (v := undef) rfl (by kernel_rfl) (by kernel_rfl) (by kernel_rfl) (fun _ _ _ h => h) (Or.inr ⟨by kernel_rfl, rfl⟩) hHeld ?_
        (try simp only [Act.put, List.setIfInBounds_toArray, List.set_cons_zero, List.set_cons_succ])
        refine wpAnyH_take (i := 21) (v := undef) rfl (by kernel_rfl) (by kernel_rfl) (by kernel_rfl) (fun _ _ _ h => h) (Or.inr ⟨by kernel_rfl, rfl⟩) hHeld ?_
        (try simp only [Act.put, List.setIfInBounds_toArray, List.set_cons_zero, List.set_cons_succ])
        refine wpAnyH_take (i := 22) (v := undef) rfl (by kernel_rfl) (by kernel_rfl) (by kernel_rfl) (fun _ _ _ h => h) (Or.inr ⟨by kernel_rfl, rfl⟩) hHeld ?_
        (try simp only [Act.put, List.setIfInBounds_toArray, List.set_cons_zero, List.set_cons_succ])
        refine wpAnyH_done (by kernel_rfl) ?_ _
        show wpList _ _ _ _ _ _
        clear HALL hHeld
        go_wp2
        gi_wp2
        go_roundw
        case rel => exact ⟨k + 1, by go_num, by omega, HST.out, HJ2.out⟩
        case measure => simp [intOf]; omega
      · have y1 : ((k : Int) != ban) = true := by rw [bne_iff_ne]; exact hkb
        by_cases hp : 0 < Lp.at_ t.goal k
        · have hE : some k = E := (Lp.colF_yes (n := 15 - (k + 1)) hkb hp).symm.trans hst
          have y2 : decide (0 < sgnQ (Lp.at_ t.goal k)) = true := decide_eq_true (by rcases hsp with ⟨e, -⟩ | ⟨e, -⟩ | ⟨-, e⟩ <;> first | (rw [e]; omega) | exact absurd hp (by grind))
          have HS1 := Lib.hid (fun W1 h => HSG.out k (by omega) W1 h)
          have HG1 := Lib.hid (fun W1 h => HGO.out k W1 h)
          have HJD1 := Lib.hid (HJD.out _ hjw.out)
          subst hE
          have HALL := Lib.hid (fun (W' : World) (h : J W') => by
            obtain ⟨T, c1, c2⟩ := HJC.out _ h
            obtain ⟨u0, -, -, -, -, u5⟩ := T.tcell
            exact (⟨c1, c2, u0, u5, HCL.out k (by omega) _ h⟩ : W'.cell? ⟨ct, 0, none⟩ = some (.pointer (some ⟨ad 10, 0, none⟩)) ∧ W'.cell? ⟨cbn, 0, none⟩ = some (.int .i64 ban) ∧ W'.cell? ⟨ad 10, 0, none⟩ = some (.pointer (some ⟨ad 9, 0, none⟩)) ∧ W'.cell? ⟨ad 10, 5, none⟩ = some (.slice (some ⟨ad 6, 0, none⟩) 16 16) ∧ W'.cell? ⟨ad 6, k, none⟩ = some (.string ⟨(rtoa (Lp.at_ t.goal k)).toArray⟩)))
          clear hst hs hkb HSG HGO HCL HSP hsp HJD HJC hp hjw b1 b2 t0 t5 g1
          generalize rtoa (Lp.at_ t.goal k) = tk at *
          generalize sgnQ (Lp.at_ t.goal k) = sg at *
          gi_wp2_with fail
          refine Go.Front.wpIn_region_front (S := fun V => V.cell? ⟨ct, 0, none⟩ = some (.pointer (some ⟨ad 10, 0, none⟩)) ∧ V.cell? ⟨cbn, 0, none⟩ = some (.int .i64 ban) ∧ V.cell? ⟨ad 10, 0, none⟩ = some (.pointer (some ⟨ad 9, 0, none⟩)) ∧ V.cell? ⟨ad 10, 5, none⟩ = some (.slice (some ⟨ad 6, 0, none⟩) 16 16) ∧ V.cell? ⟨ad 6, k, none⟩ = some (.string ⟨tk.toArray⟩)) 21 (by kernel_rfl) (by simp) (by kernel_rfl) (by kernel_rfl) (by kernel_rfl) (by kernel_rfl) (by kernel_rfl) ?_ (fun hHeld => ?_)
          · (first | with_reducible exact HALL.out _ HJ2.out | with_reducible exact HALL.out _ HJD1.out)
          simp only [List.take_succ_cons, List.take_zero, List.drop_succ_cons, List.drop_zero]
          refine wpAnyH_take (i := 0) (v := ?_) rfl (by kernel_rfl) (by kernel_rfl) (by kernel_rfl) (fun _ _ _ h => h) (Or.inl ⟨by rfl, ?_⟩) hHeld ?_
          rotate_left
          · intro W hSw; (try dsimp only at hSw); go_simp <;> with_reducible rfl
          (try simp only [Act.put, List.setIfInBounds_toArray, List.set_cons_zero, List.set_cons_succ])
          refine wpAnyH_take (i := 1) (v := ?_) rfl (by kernel_rfl) (by kernel_rfl) (by kernel_rfl) (fun _ _ _ h => h) (Or.inl ⟨by rfl, ?_⟩) hHeld ?_
          rotate_left
          · intro W hSw; (try dsimp only at hSw); go_simp <;> with_reducible rfl
          (try simp only [Act.put, List.setIfInBounds_toArray, List.set_cons_zero, List.set_cons_succ])
          refine wpAnyH_take (i := 2) (v := ?_) rfl (by kernel_rfl) (by kernel_rfl) (by kernel_rfl) (fun _ _ _ h => h) (Or.inl ⟨by rfl, ?_⟩) hHeld ?_
          rotate_left
          · intro W hSw; (try dsimp only at hSw); go_simp <;> with_reducible rfl
          (try simp only [Act.put, List.setIfInBounds_toArray, List.set_cons_zero, List.set_cons_succ])
          refine wpAnyH_take (i := 3) (v := ?_) rfl (by kernel_rfl) (by kernel_rfl) (by kernel_rfl) (fun _ _ _ h => h) (Or.inl ⟨by rfl, ?_⟩) hHeld ?_
          rotate_left
          · intro W hSw; (try dsimp only at hSw); go_simp <;> with_reducible rfl
          (try simp only [Act.put, List.setIfInBounds_toArray, List.set_cons_zero, List.set_cons_succ])
          refine wpAnyH_take (i := 4) (v := ?_) rfl (by kernel_rfl) (by kernel_rfl) (by kernel_rfl) (fun _ _ _ h => h) (Or.inl ⟨by kernel_rfl, ?_⟩) hHeld ?_
          rotate_left
          · intro W hSw; (try dsimp only at hSw); go_simp <;> with_reducible rfl
          (try simp only [Act.put, List.setIfInBounds_toArray, List.set_cons_zero, List.set_cons_succ])
          refine wpAnyH_take (i := 5) (v := ?_) rfl (by kernel_rfl) (by kernel_rfl) (by kernel_rfl) (fun _ _ _ h => h) (Or.inl ⟨by kernel_rfl, ?_⟩) hHeld ?_
          rotate_left
          · intro W hSw; (try dsimp only at hSw); go_simp <;> with_reducible rfl
          (try simp only [Act.put, List.setIfInBounds_toArray, List.set_cons_zero, List.set_cons_succ])
          refine wpAnyH_take (i := 6) (v := ?_) rfl (by kernel_rfl) (by kernel_rfl) (by kernel_rfl) (fun _ _ _ h => h) (Or.inl ⟨by kernel_rfl, ?_⟩) hHeld ?_
          rotate_left
          · intro W hSw; (try dsimp only at hSw); go_simp <;> with_reducible rfl
          (try simp only [Act.put, List.setIfInBounds_toArray, List.set_cons_zero, List.set_cons_succ])
          refine wpAnyH_take (i := 7) (v := ?_) rfl (by kernel_rfl) (by kernel_rfl) (by kernel_rfl) (fun _ _ _ h => h) (Or.inl ⟨by kernel_rfl, ?_⟩) hHeld ?_
          rotate_left
          · intro W hSw; (try dsimp only at hSw); go_simp <;> with_reducible rfl
          (try simp only [Act.put, List.setIfInBounds_toArray, List.set_cons_zero, List.set_cons_succ])
          refine wpAnyH_take (i := 8) (v := ?_) rfl (by kernel_rfl) (by kernel_rfl) (by kernel_rfl) (fun _ _ _ h => h) (Or.inl ⟨by kernel_rfl, ?_⟩) hHeld ?_
          rotate_left
          · intro W hSw; (try dsimp only at hSw); go_simp <;> with_reducible rfl
          (try simp only [Act.put, List.setIfInBounds_toArray, List.set_cons_zero, List.set_cons_succ])
          refine wpAnyH_take (i := 9) (v := ?_) rfl (by kernel_rfl) (by kernel_rfl) (by kernel_rfl) (fun _ _ _ h => h) (Or.inl ⟨by kernel_rfl, ?_⟩) hHeld ?_
          rotate_left
          · intro W hSw; (try dsimp only at hSw); go_simp <;> with_reducible rfl
          (try simp only [Act.put, List.setIfInBounds_toArray, List.set_cons_zero, List.set_cons_succ])
          refine wpAnyH_take (i := 10) (v := ?_) rfl (by kernel_rfl) (by kernel_rfl) (by kernel_rfl) (fun _ _ _ h => h) (Or.inl ⟨by kernel_rfl, ?_⟩) hHeld ?_
          rotate_left
          · intro W hSw; (try dsimp only at hSw); go_simp <;> with_reducible rfl
          (try simp only [Act.put, List.setIfInBounds_toArray, List.set_cons_zero, List.set_cons_succ])
          refine wpAnyH_take (i := 11) (v := ?_) rfl (by kernel_rfl) (by kernel_rfl) (by kernel_rfl) (fun _ _ _ h => h) (Or.inl ⟨by kernel_rfl, ?_⟩) hHeld ?_
          rotate_left
          · intro W hSw; (try dsimp only at hSw); go_simp <;> with_reducible rfl
          (try simp only [Act.put, List.setIfInBounds_toArray, List.set_cons_zero, List.set_cons_succ])
          refine wpAnyH_take (i := 12) (v := ?_) rfl (by kernel_rfl) (by kernel_rfl) (by kernel_rfl) (fun _ _ _ h => h) (Or.inl ⟨by kernel_rfl, ?_⟩) hHeld ?_
          rotate_left
          · intro W hSw; (try dsimp only at hSw); go_simp <;> with_reducible rfl
          (try simp only [Act.put, List.setIfInBounds_toArray, List.set_cons_zero, List.set_cons_succ])
          refine wpAnyH_take (i := 13) (v := ?_) rfl (by kernel_rfl) (by kernel_rfl) (by kernel_rfl) (fun _ _ _ h => h) (Or.inl ⟨by kernel_rfl, ?_⟩) hHeld ?_
          rotate_left
          · intro W hSw; (try dsimp only at hSw); go_simp <;> with_reducible rfl
          (try simp only [Act.put, List.setIfInBounds_toArray, List.set_cons_zero, List.set_cons_succ])
          refine wpAnyH_take (i := 14) (v := ?_) rfl (by kernel_rfl) (by kernel_rfl) (by kernel_rfl) (fun _ _ _ h => h) (Or.inl ⟨by kernel_rfl, ?_⟩) hHeld ?_
          rotate_left
          · intro W hSw; (try dsimp only at hSw); go_simp <;> with_reducible rfl
          (try simp only [Act.put, List.setIfInBounds_toArray, List.set_cons_zero, List.set_cons_succ])
          refine wpAnyH_ready (rs := [15]) (by kernel_rfl) (by simp) ?_
          refine AllReadyH.cons rfl (fun K hK => ?_) AllReadyH.nil
          go_simp
          ((with_reducible refine (HS1.out _ HJD1.out).mono ?_); rintro en w2 ⟨rfl, hb2⟩; have HJ2 := Lib.hid (HJS.out _ _ HJD1.out hb2))
          refine hK.out _ _ ?_ (fun hHeld => ?_)
          · ((try dsimp only); first | with_reducible exact HALL.out _ HJ2.out | with_reducible exact HALL.out _ HJD1.out)
          clear hK K
          (try simp only [Act.put, List.setIfInBounds_toArray, List.set_cons_zero, List.set_cons_succ])
          refine wpAnyH_take (i := 16) (v := ?_) rfl (by kernel_rfl) (by kernel_rfl) (by kernel_rfl) (fun _ _ _ h => h) (Or.inl ⟨by kernel_rfl, ?_⟩) hHeld ?_
          rotate_left
          · intro W hSw; (try dsimp only at hSw); go_simp <;> with_reducible rfl
          (try simp only [Act.put, List.setIfInBounds_toArray, List.set_cons_zero, List.set_cons_succ])
          refine wpAnyH_take (i := 17) (v := ?_) rfl (by kernel_rfl) (by kernel_rfl) (by kernel_rfl) (fun _ _ _ h => h) (Or.inl ⟨by rfl, ?_⟩) hHeld ?_
          rotate_left
          · intro W hSw; (try dsimp only at hSw); go_simp <;> with_reducible rfl
          (try simp only [Act.put, List.setIfInBounds_toArray, List.set_cons_zero, List.set_cons_succ])
          refine wpAnyH_take (i := 18) (v := ?_) rfl (by kernel_rfl) (by kernel_rfl) (by kernel_rfl) (fun _ _ _ h => h) (Or.inl ⟨by rfl, ?_⟩) hHeld ?_
          rotate_left
          · intro W hSw; (try dsimp only at hSw); go_simp <;> with_reducible rfl
          (try simp only [Act.put, List.setIfInBounds_toArray, List.set_cons_zero, List.set_cons_succ])
          refine wpAnyH_take (i := 19) (v := ?_) rfl (by kernel_rfl) (by kernel_rfl) (by kernel_rfl) (fun _ _ _ h => h) (Or.inl ⟨by kernel_rfl, ?_⟩) hHeld ?_
          rotate_left
          · intro W hSw; (try dsimp only at hSw); go_simp <;> with_reducible rfl
          (try simp only [Act.put, List.setIfInBounds_toArray, List.set_cons_zero, List.set_cons_succ])
          refine wpAnyH_take (i := 20) (v := ?_) rfl (by kernel_rfl) (by kernel_rfl) (by kernel_rfl) (fun _ _ _ h => h) (Or.inl ⟨by kernel_rfl, ?_⟩) hHeld ?_
          rotate_left
          · intro W hSw; (try dsimp only at hSw); go_simp <;> with_reducible rfl
          (try simp only [Act.put, List.setIfInBounds_toArray, List.set_cons_zero, List.set_cons_succ])
          refine wpAnyH_done (by kernel_rfl) ?_ _
          show wpListIn _ _ _ _ _ _ _ _
          obtain ⟨fn, tmps, assign, body, hy, hRd⟩ := HG1.out _ HJ2.out
          clear HALL hHeld HS1 HJS HJD1 hb2 HG1
          gi_wp2_with fail
          refine ⟨rfl, ?_⟩
          refine hRd.mono ?_
          rintro e w3 ⟨rfl, hj3⟩
          have HJ3 := Lib.hid hj3
          clear hj3 hRd hy HJ2
          gi_wp2
          refine bodyPost_ret (results_none rfl _ _ _) rfl ?_
          exact ⟨⟨_, rfl⟩, HJ3.out⟩
        · have HST := Lib.hid ((Lp.colF_no (n := 15 - (k + 1)) (fun h => hp h.2)).symm.trans hst)
          have y2 : decide (0 < sgnQ (Lp.at_ t.goal k)) = false := decide_eq_false (by rcases hsp with ⟨-, e⟩ | ⟨-, e⟩ | ⟨e, -⟩ <;> first | (rw [e]; omega) | exact absurd e hp)
          have HS1 := Lib.hid (fun W1 h => HSG.out k (by omega) W1 h)
          have HJD1 := Lib.hid (HJD.out _ hjw.out)
          have HALL := Lib.hid (fun (W' : World) (h : J W') => by
            obtain ⟨T, c1, c2⟩ := HJC.out _ h
            obtain ⟨u0, -, -, -, -, u5⟩ := T.tcell
            exact (⟨c1, c2, u0, u5, HCL.out k (by omega) _ h⟩ : W'.cell? ⟨ct, 0, none⟩ = some (.pointer (some ⟨ad 10, 0, none⟩)) ∧ W'.cell? ⟨cbn, 0, none⟩ = some (.int .i64 ban) ∧ W'.cell? ⟨ad 10, 0, none⟩ = some (.pointer (some ⟨ad 9, 0, none⟩)) ∧ W'.cell? ⟨ad 10, 5, none⟩ = some (.slice (some ⟨ad 6, 0, none⟩) 16 16) ∧ W'.cell? ⟨ad 6, k, none⟩ = some (.string ⟨(rtoa (Lp.at_ t.goal k)).toArray⟩)))
          clear hst hs hkb HSG HGO HCL HSP hsp HJD HJC hp b1 b2 t0 t5 g1
          generalize rtoa (Lp.at_ t.goal k) = tk at *
          generalize sgnQ (Lp.at_ t.goal k) = sg at *
          gi_wp2_with fail
          refine (wpIn_wide (n := 0)).2 ?_
          refine Go.Front.wp_region_front (S := fun V => V.cell? ⟨ct, 0, none⟩ = some (.pointer (some ⟨ad 10, 0, none⟩)) ∧ V.cell? ⟨cbn, 0, none⟩ = some (.int .i64 ban) ∧ V.cell? ⟨ad 10, 0, none⟩ = some (.pointer (some ⟨ad 9, 0, none⟩)) ∧ V.cell? ⟨ad 10, 5, none⟩ = some (.slice (some ⟨ad 6, 0, none⟩) 16 16) ∧ V.cell? ⟨ad 6, k, none⟩ = some (.string ⟨tk.toArray⟩)) 23 (by kernel_rfl) (by simp) (by kernel_rfl) (by kernel_rfl) (by kernel_rfl) (by kernel_rfl) ?_ (fun hHeld => ?_)
          · (first | with_reducible exact HALL.out _ HJ2.out | with_reducible exact HALL.out _ HJD1.out)
          simp only [List.take_succ_cons, List.take_zero, List.drop_succ_cons, List.drop_zero]
          refine wpAnyH_take (i := 0) (v := ?_) rfl (by kernel_rfl) (by kernel_rfl) (by kernel_rfl) (fun _ _ _ h => h) (Or.inl ⟨by rfl, ?_⟩) hHeld ?_
          rotate_left
          · intro W hSw; (try dsimp only at hSw); go_simp <;> with_reducible rfl
          (try simp only [Act.put, List.setIfInBounds_toArray, List.set_cons_zero, List.set_cons_succ])
          refine wpAnyH_take (i := 1) (v := ?_) rfl (by kernel_rfl) (by kernel_rfl) (by kernel_rfl) (fun _ _ _ h => h) (Or.inl ⟨by rfl, ?_⟩) hHeld ?_
          rotate_left
          · intro W hSw; (try dsimp only at hSw); go_simp <;> with_reducible rfl
          (try simp only [Act.put, List.setIfInBounds_toArray, List.set_cons_zero, List.set_cons_succ])
          refine wpAnyH_take (i := 2) (v := ?_) rfl (by kernel_rfl) (by kernel_rfl) (by kernel_rfl) (fun _ _ _ h => h) (Or.inl ⟨by rfl, ?_⟩) hHeld ?_
          rotate_left
          · intro W hSw; (try dsimp only at hSw); go_simp <;> with_reducible rfl
          (try simp only [Act.put, List.setIfInBounds_toArray, List.set_cons_zero, List.set_cons_succ])
          refine wpAnyH_take (i := 3) (v := ?_) rfl (by kernel_rfl) (by kernel_rfl) (by kernel_rfl) (fun _ _ _ h => h) (Or.inl ⟨by rfl, ?_⟩) hHeld ?_
          rotate_left
          · intro W hSw; (try dsimp only at hSw); go_simp <;> with_reducible rfl
          (try simp only [Act.put, List.setIfInBounds_toArray, List.set_cons_zero, List.set_cons_succ])
          refine wpAnyH_take (i := 4) (v := ?_) rfl (by kernel_rfl) (by kernel_rfl) (by kernel_rfl) (fun _ _ _ h => h) (Or.inl ⟨by kernel_rfl, ?_⟩) hHeld ?_
          rotate_left
          · intro W hSw; (try dsimp only at hSw); go_simp <;> with_reducible rfl
          (try simp only [Act.put, List.setIfInBounds_toArray, List.set_cons_zero, List.set_cons_succ])
          refine wpAnyH_take (i := 5) (v := ?_) rfl (by kernel_rfl) (by kernel_rfl) (by kernel_rfl) (fun _ _ _ h => h) (Or.inl ⟨by kernel_rfl, ?_⟩) hHeld ?_
          rotate_left
          · intro W hSw; (try dsimp only at hSw); go_simp <;> with_reducible rfl
          (try simp only [Act.put, List.setIfInBounds_toArray, List.set_cons_zero, List.set_cons_succ])
          refine wpAnyH_take (i := 6) (v := ?_) rfl (by kernel_rfl) (by kernel_rfl) (by kernel_rfl) (fun _ _ _ h => h) (Or.inl ⟨by kernel_rfl, ?_⟩) hHeld ?_
          rotate_left
          · intro W hSw; (try dsimp only at hSw); go_simp <;> with_reducible rfl
          (try simp only [Act.put, List.setIfInBounds_toArray, List.set_cons_zero, List.set_cons_succ])
          refine wpAnyH_take (i := 7) (v := ?_) rfl (by kernel_rfl) (by kernel_rfl) (by kernel_rfl) (fun _ _ _ h => h) (Or.inl ⟨by kernel_rfl, ?_⟩) hHeld ?_
          rotate_left
          · intro W hSw; (try dsimp only at hSw); go_simp <;> with_reducible rfl
          (try simp only [Act.put, List.setIfInBounds_toArray, List.set_cons_zero, List.set_cons_succ])
          refine wpAnyH_take (i := 8) (v := ?_) rfl (by kernel_rfl) (by kernel_rfl) (by kernel_rfl) (fun _ _ _ h => h) (Or.inl ⟨by kernel_rfl, ?_⟩) hHeld ?_
          rotate_left
          · intro W hSw; (try dsimp only at hSw); go_simp <;> with_reducible rfl
          (try simp only [Act.put, List.setIfInBounds_toArray, List.set_cons_zero, List.set_cons_succ])
          refine wpAnyH_take (i := 9) (v := ?_) rfl (by kernel_rfl) (by kernel_rfl) (by kernel_rfl) (fun _ _ _ h => h) (Or.inl ⟨by kernel_rfl, ?_⟩) hHeld ?_
          rotate_left
          · intro W hSw; (try dsimp only at hSw); go_simp <;> with_reducible rfl
          (try simp only [Act.put, List.setIfInBounds_toArray, List.set_cons_zero, List.set_cons_succ])
          refine wpAnyH_take (i := 10) (v := ?_) rfl (by kernel_rfl) (by kernel_rfl) (by kernel_rfl) (fun _ _ _ h => h) (Or.inl ⟨by kernel_rfl, ?_⟩) hHeld ?_
          rotate_left
          · intro W hSw; (try dsimp only at hSw); go_simp <;> with_reducible rfl
          (try simp only [Act.put, List.setIfInBounds_toArray, List.set_cons_zero, List.set_cons_succ])
          refine wpAnyH_take (i := 11) (v := ?_) rfl (by kernel_rfl) (by kernel_rfl) (by kernel_rfl) (fun _ _ _ h => h) (Or.inl ⟨by kernel_rfl, ?_⟩) hHeld ?_
          rotate_left
          · intro W hSw; (try dsimp only at hSw); go_simp <;> with_reducible rfl
          (try simp only [Act.put, List.setIfInBounds_toArray, List.set_cons_zero, List.set_cons_succ])
          refine wpAnyH_take (i := 12) (v := ?_) rfl (by kernel_rfl) (by kernel_rfl) (by kernel_rfl) (fun _ _ _ h => h) (Or.inl ⟨by kernel_rfl, ?_⟩) hHeld ?_
          rotate_left
          · intro W hSw; (try dsimp only at hSw); go_simp <;> with_reducible rfl
          (try simp only [Act.put, List.setIfInBounds_toArray, List.set_cons_zero, List.set_cons_succ])
          refine wpAnyH_take (i := 13) (v := ?_) rfl (by kernel_rfl) (by kernel_rfl) (by kernel_rfl) (fun _ _ _ h => h) (Or.inl ⟨by kernel_rfl, ?_⟩) hHeld ?_
          rotate_left
          · intro W hSw; (try dsimp only at hSw); go_simp <;> with_reducible rfl
          (try simp only [Act.put, List.setIfInBounds_toArray, List.set_cons_zero, List.set_cons_succ])
          refine wpAnyH_take (i := 14) (v := ?_) rfl (by kernel_rfl) (by kernel_rfl) (by kernel_rfl) (fun _ _ _ h => h) (Or.inl ⟨by kernel_rfl, ?_⟩) hHeld ?_
          rotate_left
          · intro W hSw; (try dsimp only at hSw); go_simp <;> with_reducible rfl
          (try simp only [Act.put, List.setIfInBounds_toArray, List.set_cons_zero, List.set_cons_succ])
          refine wpAnyH_ready (rs := [15]) (by kernel_rfl) (by simp) ?_
          refine AllReadyH.cons rfl (fun K hK => ?_) AllReadyH.nil
          go_simp
          ((with_reducible refine (HS1.out _ HJD1.out).mono ?_); rintro en w2 ⟨rfl, hb2⟩; have HJ2 := Lib.hid (HJS.out _ _ HJD1.out hb2))
          refine hK.out _ _ ?_ (fun hHeld => ?_)
          · ((try dsimp only); first | with_reducible exact HALL.out _ HJ2.out | with_reducible exact HALL.out _ HJD1.out)
          clear hK K
          (try simp only [Act.put, List.setIfInBounds_toArray, List.set_cons_zero, List.set_cons_succ])
          refine wpAnyH_take (i := 16) (v := ?_) rfl (by kernel_rfl) (by kernel_rfl) (by kernel_rfl) (fun _ _ _ h => h) (Or.inl ⟨by kernel_rfl, ?_⟩) hHeld ?_
          rotate_left
          · intro W hSw; (try dsimp only at hSw); go_simp <;> with_reducible rfl
          (try simp only [Act.put, List.setIfInBounds_toArray, List.set_cons_zero, List.set_cons_succ])
          refine wpAnyH_take (i := 17) (v := ?_) rfl (by kernel_rfl) (by kernel_rfl) (by kernel_rfl) (fun _ _ _ h => h) (Or.inl ⟨by rfl, ?_⟩) hHeld ?_
          rotate_left
          · intro W hSw; (try dsimp only at hSw); go_simp <;> with_reducible rfl
          (try simp only [Act.put, List.setIfInBounds_toArray, List.set_cons_zero, List.set_cons_succ])
          refine wpAnyH_take (i := 18) (v := ?_) rfl (by kernel_rfl) (by kernel_rfl) (by kernel_rfl) (fun _ _ _ h => h) (Or.inl ⟨by rfl, ?_⟩) hHeld ?_
          rotate_left
          · intro W hSw; (try dsimp only at hSw); go_simp <;> with_reducible rfl
          (try simp only [Act.put, List.setIfInBounds_toArray, List.set_cons_zero, List.set_cons_succ])
          refine wpAnyH_take (i := 19) (v := undef) rfl (by kernel_rfl) (by kernel_rfl) (by kernel_rfl) (fun _ _ _ h => h) (Or.inr ⟨by kernel_rfl, rfl⟩) hHeld ?_
          (try simp only [Act.put, List.setIfInBounds_toArray, List.set_cons_zero, List.set_cons_succ])
          refine wpAnyH_take (i := 20) (v := undef) rfl (by kernel_rfl) (by kernel_rfl) (by kernel_rfl) (fun _ _ _ h => h) (Or.inr ⟨by kernel_rfl, rfl⟩) hHeld ?_
          (try simp only [Act.put, List.setIfInBounds_toArray, List.set_cons_zero, List.set_cons_succ])
          refine wpAnyH_take (i := 21) (v := undef) rfl (by kernel_rfl) (by kernel_rfl) (by kernel_rfl) (fun _ _ _ h => h) (Or.inr ⟨by kernel_rfl, rfl⟩) hHeld ?_
          (try simp only [Act.put, List.setIfInBounds_toArray, List.set_cons_zero, List.set_cons_succ])
          refine wpAnyH_take (i := 22) (v := undef) rfl (by kernel_rfl) (by kernel_rfl) (by kernel_rfl) (fun _ _ _ h => h) (Or.inr ⟨by kernel_rfl, rfl⟩) hHeld ?_
          (try simp only [Act.put, List.setIfInBounds_toArray, List.set_cons_zero, List.set_cons_succ])
          refine wpAnyH_done (by kernel_rfl) ?_ _
          show wpList _ _ _ _ _ _
          clear HALL hHeld HS1 HJS hb2
          go_wp2
          gi_wp2
          go_roundw
          case rel => exact ⟨k + 1, by go_num, by omega, HST.out, HJ2.out⟩
          case measure => simp [intOf]; omega
    · obtain rfl : k = 15 := by omega
      rw [show ((15 : Nat) : Int) = 15 from rfl]
      have hs2 := hs.out
      rw [Nat.sub_self, Lp.colF_end] at hs2
      subst hs2
      clear HSG HGO HJS HCL HSP HJD HJC hs
      gi_wp2
      refine bodyPost_ret (results_none rfl _ _ _) rfl ?_
      exact ⟨⟨_, rfl⟩, hjw.out⟩
end Go.Proofs.Wk
/- LINEAR PROGRAMS: the first column; climbing. -/
namespace Go.Proofs.Wk
open Go.RowKit Go.Rng Mt
attribute [local go_sem] Oper.semAt_some

/-- The memory of 'first'. -/
structure FsJ (w : World) (v0 v1 : Value) (lp : Loop) (W : World) : Prop where
  r0 : W.heap[w.heap.size]? = some (.cells #[v0] 3 (0, 0))
  r1 : W.heap[w.heap.size + 1]? = some (.cells #[v1] 4 (0, 0))
  d : W.heap[w.heap.size + 2]? = some (.deferred (some []))
  lp : W.heap[w.heap.size + 3]? = some (.loop lp)
  w : Below w.heap.size w W
theorem putBelow {B : Nat} {w0 W : World} (h : Below B w0 W) {l : Nat} (hl : B ≤ l) (o : Obj) : Below B w0 (W.putObj l o) :=
  ⟨h.os, h.tape, h.output, by rw [World.putObj_size]; exact h.size, fun k hk => by rw [World.putObj_heap_other (by omega)]; exact h.block k hk⟩
section
variable {w W : World} {v0 v1 : Value} {lp : Loop}
theorem FsJ.later (h : FsJ w v0 v1 lp W) {W' : World} (hb : Below W.heap.size W W') : FsJ w v0 v1 lp W' :=
  ⟨keepB h.r0 hb, keepB h.r1 hb, keepB h.d hb, keepB h.lp hb, h.w.nxt hb⟩
theorem FsJ.put (h : FsJ w v0 v1 lp W) (r : Loop) : FsJ w v0 v1 r (W.putObj (w.heap.size + 3) (.loop r)) :=
  ⟨by rw [World.putObj_heap_other (by omega)]; exact h.r0, by rw [World.putObj_heap_other (by omega)]; exact h.r1, by rw [World.putObj_heap_other (by omega)]; exact h.d,
    World.putObj_heap_same (Array.getElem?_eq_some_iff.1 h.lp).1, putBelow h.w (by omega) _⟩
theorem FsJ.set (h : FsJ w v0 v1 lp W) (x0 x1 : Value) : FsJ w x0 x1 lp ((W.setCell ⟨w.heap.size, 0, none⟩ x0).setCell ⟨w.heap.size + 1, 0, none⟩ x1) := by
  have e0 : (W.setCell ⟨w.heap.size, 0, none⟩ x0).heap[w.heap.size]? = some (.cells #[x0] 3 (0, 0)) := heap_setCell_same W _ 0 _ _ x0 h.r0
  have e1 : (W.setCell ⟨w.heap.size, 0, none⟩ x0).heap[w.heap.size + 1]? = some (.cells #[v1] 4 (0, 0)) := (heap_setCell_other W ⟨w.heap.size, 0, none⟩ _ x0 (show w.heap.size + 1 ≠ w.heap.size by omega)).trans h.r1
  have o1 : ∀ k, k ≠ w.heap.size → k ≠ w.heap.size + 1 → ((W.setCell ⟨w.heap.size, 0, none⟩ x0).setCell ⟨w.heap.size + 1, 0, none⟩ x1).heap[k]? = W.heap[k]? := fun k a b =>
    (heap_setCell_other _ ⟨w.heap.size + 1, 0, none⟩ k x1 b).trans (heap_setCell_other W ⟨w.heap.size, 0, none⟩ k x0 a)
  refine ⟨(heap_setCell_other _ ⟨w.heap.size + 1, 0, none⟩ _ x1 (show w.heap.size ≠ w.heap.size + 1 by omega)).trans e0, heap_setCell_same _ _ 0 _ _ x1 e1, (o1 _ (by omega) (by omega)).trans h.d, (o1 _ (by omega) (by omega)).trans h.lp, ?_⟩
  exact Below.setc (Below.setc h.w (Nat.le_refl _) _ _) (by omega) _ _
end
def fsV : Option Nat → Value
  | none => .tuple #[.int .i64 0, .bool false]
  | some c => .tuple #[.int .i64 (c : Int), .bool true]
set_option maxRecDepth 100000 in
theorem fs_run (tmps : Array Value) (W : World) (B : Nat) (v : Int) (u : Bool) (h0 : W.cell? ⟨B, 0, none⟩ = some (.int .i64 v)) (h1 : W.cell? ⟨B + 1, 0, none⟩ = some (.bool u)) (p1 : tmps.getD 2 undef = .pointer (some ⟨B, 0, none⟩)) (p2 : tmps.getD 3 undef = .pointer (some ⟨B + 1, 0, none⟩)) :
    (results Tryz.f74 tmps).run Tryz.prog W = .ok (.tuple #[.int .i64 v, .bool u]) W := by
  have hr := Tryz.results74
  rw [Array.getD_eq_getD_getElem?] at p1 p2
  simp only [results, hr]
  simp [go_sem, p1, p2, h0, h1, loadVar, asAddr]
theorem fs_new (w : World) (r : Loop) : FsJ w (.int .i64 0) (.bool false) r ((((w.alloc (.cells #[.int .i64 0] 3)).alloc (.cells #[.bool false] 4)).alloc (.deferred (some []))).alloc (.loop r)) := by
  have h1 := heap_alloc_new w (.cells #[.int .i64 0] 3)
  have b1 : Below w.heap.size w (w.alloc (.cells #[.int .i64 0] 3)) := (Below.refl _ _).alloc (Nat.le_refl _) _
  have s1 : (w.alloc (.cells #[.int .i64 0] 3)).heap.size = w.heap.size + 1 := by simp
  generalize w.alloc (.cells #[.int .i64 0] 3) = W1 at *
  have h2 := heap_alloc_new W1 (.cells #[.bool false] 4)
  have b2 : Below W1.heap.size W1 (W1.alloc (.cells #[.bool false] 4)) := (Below.refl _ _).alloc (Nat.le_refl _) _
  have s2 : (W1.alloc (.cells #[.bool false] 4)).heap.size = W1.heap.size + 1 := by simp
  generalize W1.alloc (.cells #[.bool false] 4) = W2 at *
  have h3 := heap_alloc_new W2 (.deferred (some []))
  have b3 : Below W2.heap.size W2 (W2.alloc (.deferred (some []))) := (Below.refl _ _).alloc (Nat.le_refl _) _
  have s3 : (W2.alloc (.deferred (some []))).heap.size = W2.heap.size + 1 := by simp
  generalize W2.alloc (.deferred (some [])) = W3 at *
  have h4 := heap_alloc_new W3 (.loop r)
  have b4 : Below W3.heap.size W3 (W3.alloc (.loop r)) := (Below.refl _ _).alloc (Nat.le_refl _) _
  generalize W3.alloc (.loop r) = W4 at *
  rw [s1] at h2
  rw [s2, s1] at h3
  rw [s3, s2, s1] at h4
  exact ⟨keepB (keepB (keepB h1 b2) b3) b4, keepB (keepB h2 b3) b4, keepB h3 b4, h4, ((b1.nxt b2).nxt b3).nxt b4⟩
def FsP (w : World) (o : Option Nat) (e : Ending) (w' : World) : Prop := e = .returned (fsV o) ∧ Below w.heap.size w w'
set_option maxRecDepth 100000 in
set_option maxHeartbeats 4000000 in
theorem first_c {w0 w : World} (hg : Good w0) {ad : Nat → Nat} {cr cb : Nat} {t : Lp.Tab} (ht : Lp.SmT t) (h : TB w0 ad cr cb w (tX t) t.bas) {ct cbn : Nat} {ban : Int} (k1 : w.cell? ⟨ct, 0, none⟩ = some (.pointer (some ⟨ad 10, 0, none⟩))) (k2 : w.cell? ⟨cbn, 0, none⟩ = some (.int .i64 ban)) :
    Calls Tryz.prog 74 #[.func (.func 148) #[] #[.pointer (some ⟨ct, 0, none⟩), .pointer (some ⟨cbn, 0, none⟩)]] w (FsP w (Lp.colF t.goal ban 15 0)) := by
  have lt : ∀ {g : Nat} {v : Value}, w.cell? ⟨g, 0, none⟩ = some v → g < w.heap.size := fun {g v} e => World.block_lt_of_cell? w ⟨g, 0, none⟩ e
  have HK := Lib.hid (fun W (hb : Below w.heap.size w W) => (⟨h.later hb, by rw [hb.cell (p := ⟨ct, 0, none⟩) (lt k1)]; exact k1, by rw [hb.cell (p := ⟨cbn, 0, none⟩) (lt k2)]; exact k2⟩ :
    TB w0 ad cr cb W (tX t) t.bas ∧ W.cell? ⟨ct, 0, none⟩ = some (.pointer (some ⟨ad 10, 0, none⟩)) ∧ W.cell? ⟨cbn, 0, none⟩ = some (.int .i64 ban)))
  clear h k1 k2 lt
  refine calls_marks Tryz.func74 rfl ?_
  simp only [Tryz.ntmps74, List.size_toArray, List.length_cons, List.length_nil, Nat.reduceAdd, Nat.reduceSub, Array.replicate_succ, Array.replicate_zero, List.push_toArray, List.append_toArray, List.nil_append, List.cons_append]
  go_wp2_with fail
  have hs := fun r => fs_new w r
  refine range_named (gf := 148) (lb := #[.pointer (some ⟨ct, 0, none⟩), .pointer (some ⟨cbn, 0, none⟩)]) rfl (enters_of Tryz.func148 (by kernel_rfl) rfl) (fun fn lp hlp => ?_)
  have hsz : ((w.alloc (.cells #[.int .i64 0] 3)).alloc (.cells #[.bool false] 4)).heap.size = w.heap.size + 2 := by simp
  rw [hsz] at hlp ⊢
  simp only [Nat.add_assoc, Nat.reduceAdd]
  have HLP := Lib.hid hlp
  have hj := hs (lp .ready none)
  generalize (((w.alloc (.cells #[.int .i64 0] 3)).alloc (.cells #[.bool false] 4)).alloc (.deferred (some []))).alloc (.loop (lp .ready none)) = W4 at *
  clear hsz hs hlp
  refine (cols_in hg ht ct cbn (w.heap.size + 3) ban (fun W => FsJ w (.int .i64 0) (.bool false) (lp .ready none) W) (fun c W => FsJ w (.int .i64 (c : Int)) (.bool true) (lp .done (some .ret)) W)
    (fun W1 W2 j b => j.later b) (fun W1 j => HK.out W1 j.w) ?go W4 hj).mono ?_
  case go =>
    intro c W1 hj1
    have HJ1 := Lib.hid hj1
    have HP := Lib.hid (hj1.put (lp .busy none))
    apply yield_named HLP.out HJ1.out.lp rfl
    · intro K hK
      gi_wp2
      exact hK
    · generalize W1.putObj (w.heap.size + 3) (.loop (lp .busy none)) = W2 at *
      have c0 := one_cell HP.out.r0
      have c1 := one_cell HP.out.r1
      have f0 := frozen_of_row W2 w.heap.size 0 _ _ HP.out.r0
      have f1 := frozen_of_row W2 (w.heap.size + 1) 0 _ _ HP.out.r1
      have HS := Lib.hid (HP.out.set (.int .i64 (c : Int)) (.bool true))
      clear hj1 HJ1
      gi_wp2
      exact ⟨HS.out.lp, rfl, HS.out.put _⟩
  · rintro e W2 ⟨hv, hh⟩
    refine ⟨hv, ?_⟩
    generalize Lp.colF t.goal ban 15 0 = o at *
    cases o with
    | none =>
      have hj2 : FsJ w (.int .i64 0) (.bool false) (lp .ready none) W2 := hh
      refine ⟨.ready, none, hj2.lp, by decide, ?_⟩
      have HP := Lib.hid (hj2.put (lp .exhausted none))
      simp only [After]
      clear hh hj2 hj
      generalize W2.putObj (w.heap.size + 3) (.loop (lp .exhausted none)) = W3 at *
      have c0 := one_cell HP.out.r0
      have c1 := one_cell HP.out.r1
      have f0 := frozen_of_row W3 w.heap.size 0 _ _ HP.out.r0
      have f1 := frozen_of_row W3 (w.heap.size + 1) 0 _ _ HP.out.r1
      have HS := Lib.hid (HP.out.set (.int .i64 0) (.bool false))
      go_wp2
      refine postM_ret1 rfl HS.out.d (fs_run _ _ w.heap.size 0 false ?_ ?_ rfl rfl) ⟨rfl, putBelow HS.out.w (by omega) _⟩
      · rw [World.cell?_of_block (World.putObj_heap_other (by simp))]; exact one_cell HS.out.r0
      · rw [World.cell?_of_block (World.putObj_heap_other (by simp))]; exact one_cell HS.out.r1
    | some c =>
      have hj2 : FsJ w (.int .i64 (c : Int)) (.bool true) (lp .done (some .ret)) W2 := hh
      refine ⟨.done, some .ret, hj2.lp, by decide, ?_⟩
      have HP := Lib.hid (hj2.put (lp .exhausted (some .ret)))
      simp only [After]
      clear hh hj2 hj
      generalize W2.putObj (w.heap.size + 3) (.loop (lp .exhausted (some .ret))) = W3 at *
      go_wp2
      (try simp only [Exit.inBlock, Exit.then])
      refine postM_ret1 rfl HP.out.d (fs_run _ _ w.heap.size (c : Int) true ?_ ?_ rfl rfl) ⟨rfl, putBelow HP.out.w (by omega) _⟩
      · rw [World.cell?_of_block (World.putObj_heap_other (by simp))]; exact one_cell HP.out.r0
      · rw [World.cell?_of_block (World.putObj_heap_other (by simp))]; exact one_cell HP.out.r1
end Go.Proofs.Wk
/- LINEAR PROGRAMS: climbing, two and three rounds. -/
namespace Go.Proofs.Wk
open Go.RowKit Mt

theorem tX_pivot {t : Lp.Tab} (ht : Lp.SmT t) {r c : Nat} (hr : r < 6) : (∀ i, i < 7 → pvX (tX t) r c i = tX (Lp.pivot t r c) i) ∧ ∀ i, i < 6 → (if i = r then c else t.bas i) = (Lp.pivot t r c).bas i := by
  refine ⟨fun i hi => ?_, fun i hi => (Lp.pivot_bas (by rw [ht.bl]; exact hi)).symm⟩
  unfold pvX
  rw [tX_row t hr]
  by_cases e : i = 6
  · rw [if_neg (by omega), e, tX_goal, tX_goal]; rfl
  · rw [tX_row _ (show i < 6 by omega), tX_row _ (show i < 6 by omega), Lp.pivot_row (by rw [ht.rl]; omega)]
    unfold Lp.pivI Lp.pivR
    rfl
/-- A table is left. -/
def TtP (w0 : World) (ad : Nat → Nat) (cr cb : Nat) (W : World) (t : Lp.Tab) (v : Value) (e : Ending) (W' : World) : Prop := e = .returned v ∧ TB w0 ad cr cb W' (tX t) t.bas ∧ Kp ad W W'
theorem pivT_c {w0 W : World} (hg : Good w0) {ad : Nat → Nat} {cr cb : Nat} {t : Lp.Tab} {r c : Nat} (hp : Lp.SmP t r c) (h : TB w0 ad cr cb W (tX t) t.bas) :
    Calls Tryz.prog 107 #[.pointer (some ⟨ad 10, 0, none⟩), .int .i64 (r : Int), .int .i64 (c : Int)] W (TtP w0 ad cr cb W (Lp.pivot t r c) (.tuple #[])) := by
  have := pivot_c hg h hp.hr hp.hc (tX_sm hp.tab) (by rw [tX_row t hp.hr]; exact hp.ne) (by rw [tX_row t hp.hr]; exact hp.piv)
  refine this.mono ?_
  rintro e W' ⟨rfl, T, K⟩
  obtain ⟨h1, h2⟩ := tX_pivot hp.tab (c := c) hp.hr
  exact ⟨rfl, T.congr h1 h2, K⟩
structure OkS (ban : Int) (t : Lp.Tab) (t' : Lp.Tab) (r c : Nat) : Prop where
  col : Lp.colF t.goal ban 15 0 = some c
  lv : (Lp.leavS t c 6).1 = (r : Int)
  p : Lp.SmP t r c
  next : t' = Lp.pivot t r c
theorem okS_is {ban : Int} {t : Lp.Tab} (h : Lp.okS ban t = true) : ∃ r c, OkS ban t (Lp.stepT ban t) r c := by
  unfold Lp.okS at h
  cases hc : Lp.colF t.goal ban 15 0 with
  | none => rw [hc] at h; cases h
  | some c =>
    rw [hc] at h
    simp only [Bool.and_eq_true, decide_eq_true_eq] at h
    refine ⟨(Lp.leavS t c 6).1.toNat, c, hc, (Int.toNat_of_nonneg h.1).symm, Lp.smP_is h.2, ?_⟩
    unfold Lp.stepT
    rw [hc]
theorem okN_is {ban : Int} {t : Lp.Tab} {n : Nat} (h : Lp.okN ban t n = true) : (∀ j, j < n → ∃ r c, OkS ban (Lp.itT ban t j) (Lp.itT ban t (j + 1)) r c) ∧ Lp.colF (Lp.itT ban t n).goal ban 15 0 = none ∧ Lp.SmT (Lp.itT ban t n) := by
  unfold Lp.okN at h
  simp only [Bool.and_eq_true, List.all_eq_true, List.mem_range, Option.isNone_iff_eq_none] at h
  exact ⟨fun j hj => okS_is (h.1.1 j hj), h.1.2, Lp.smT_is h.2⟩
theorem box2 (W : World) (x y : Value) (T U : TypeId) :
    Below W.heap.size W ((W.alloc (.cells #[x] T)).alloc (.cells #[y] U)) ∧ ((W.alloc (.cells #[x] T)).alloc (.cells #[y] U)).cell? ⟨W.heap.size, 0, none⟩ = some x ∧ ((W.alloc (.cells #[x] T)).alloc (.cells #[y] U)).cell? ⟨W.heap.size + 1, 0, none⟩ = some y := by
  have h1 := heap_alloc_new W (.cells #[x] T)
  have b1 : Below W.heap.size W (W.alloc (.cells #[x] T)) := (Below.refl _ _).alloc (Nat.le_refl _) _
  have s1 : (W.alloc (.cells #[x] T)).heap.size = W.heap.size + 1 := by simp
  generalize W.alloc (.cells #[x] T) = W1 at *
  have h2 := heap_alloc_new W1 (.cells #[y] U)
  have b2 : Below W1.heap.size W1 (W1.alloc (.cells #[y] U)) := (Below.refl _ _).alloc (Nat.le_refl _) _
  generalize W1.alloc (.cells #[y] U) = W2 at *
  rw [s1] at h2
  exact ⟨b1.nxt b2, one_cell (keepB h1 b2), one_cell h2⟩
/-- The first column, met through the iterator. -/
theorem firstT_c {w0 w : World} (hg : Good w0) {ad : Nat → Nat} {cr cb : Nat} {t : Lp.Tab} (ht : Lp.SmT t) (h : TB w0 ad cr cb w (tX t) t.bas) (ban : Int) {o : Option Nat} (ho : Lp.colF t.goal ban 15 0 = o) :
    Calls Tryz.prog 74 #[.func (.func 148) #[] #[.pointer (some ⟨w.heap.size, 0, none⟩), .pointer (some ⟨w.heap.size + 1, 0, none⟩)]] ((w.alloc (.cells #[.pointer (some ⟨ad 10, 0, none⟩)] 128)).alloc (.cells #[.int .i64 ban] 3))
      (fun e w' => e = .returned (fsV o) ∧ Below w.heap.size w w') := by
  obtain ⟨hb, c0, c1⟩ := box2 w (.pointer (some ⟨ad 10, 0, none⟩)) (.int .i64 ban) 128 3
  have := first_c hg ht (h.later hb) c0 c1
  rw [ho] at this
  refine this.mono ?_
  rintro e w' ⟨rfl, h2⟩
  exact ⟨rfl, hb.nxt h2⟩
set_option maxRecDepth 100000 in
set_option maxHeartbeats 4000000 in
theorem climb2_c {w0 W : World} (hg : Good w0) {ad : Nat → Nat} {cr cb : Nat} {t : Lp.Tab} {ban : Int} (hok : Lp.okN ban t 2 = true) (h : TB w0 ad cr cb W (tX t) t.bas) :
    Calls Tryz.prog 73 #[.pointer (some ⟨ad 10, 0, none⟩), .func (.func 74) #[] #[], .int .i64 ban] W (TtP w0 ad cr cb W (Lp.itT ban t 2) (.bool true)) := by
  obtain ⟨hs, hend, htn⟩ := okN_is hok
  obtain ⟨r0, c0, k0⟩ := hs 0 (by omega)
  obtain ⟨r1, c1, k1⟩ := hs 1 (by omega)
  have HT0 := Lib.hid (show TB w0 ad cr cb W (tX (Lp.itT ban t 0)) (Lp.itT ban t 0).bas from h)
  have HK0 := Lib.hid (Kp.refl ad W)
  clear hs hok h
  obtain ⟨t0, ht0⟩ : ∃ x, Lp.itT ban t 0 = x := ⟨_, rfl⟩
  obtain ⟨t1, ht1⟩ : ∃ x, Lp.itT ban t 1 = x := ⟨_, rfl⟩
  obtain ⟨t2, ht2⟩ : ∃ x, Lp.itT ban t 2 = x := ⟨_, rfl⟩
  rw [ht0, ht1] at k0
  rw [ht1, ht2] at k1
  rw [ht0] at HT0
  rw [ht2] at hend htn
  rw [ht2]
  clear ht0 ht1 ht2
  have KK0 := Lib.hid k0
  have KK1 := Lib.hid k1
  clear k0 k1
  have HSW : ∀ W' X' b', TB w0 ad cr cb W' X' b' → W'.cell? ⟨ad 9, 0, none⟩ = some (.int .i64 0) := fun W' X' b' T => one_cell T.sum
  have HS := Lib.hid HSW
  clear HSW
  go_enter Tryz.func73, Tryz.ntmps73
  go_wp2_with fail
  refine wp_loop_rounds 3 ?_
  rw [rounds_succ]
  obtain ⟨a0, -⟩ := HT0.out.tcell
  have b0 := HS.out _ _ _ HT0.out
  go_wp2_with fail
  ((with_reducible refine (columns_c _ _ _).mono ?_); rintro en wc0 ⟨rfl, rfl⟩)
  clear a0 b0
  go_wp2_with fail
  ((with_reducible refine (firstT_c hg KK0.out.p.tab HT0.out _ KK0.out.col).mono ?_); rintro en wd0 ⟨rfl, hb0⟩)
  have HTa0 := Lib.hid (HT0.out.later hb0)
  have HKa0 := Lib.hid (HK0.out.trans (Kp.below hb0))
  clear hb0 HT0 HK0
  simp only [fsV]
  have HLV0 := Lib.hid (leaving_c hg KK0.out.p.tab HTa0.out KK0.out.p.hc)
  rw [KK0.out.lv] at HLV0
  go_wp2_with fail
  ((with_reducible refine HLV0.out.mono ?_); rintro en we0 ⟨rfl, hb0⟩)
  have HTb0 := Lib.hid (HTa0.out.later hb0)
  have HKb0 := Lib.hid (HKa0.out.trans (Kp.below hb0))
  have y0 : decide ((r0 : Int) < 0) = false := decide_eq_false (by omega)
  clear hb0 HTa0 HKa0 HLV0
  go_wp2_with fail
  ((with_reducible refine (pivT_c hg KK0.out.p HTb0.out).mono ?_); rintro en wf0 ⟨rfl, hT0, hK0⟩)
  rw [← KK0.out.next] at hT0
  have HT1 := Lib.hid hT0
  have HK1 := Lib.hid (HKb0.out.trans hK0)
  clear hT0 hK0 HTb0 HKb0 y0
  go_wp2_with fail
  rw [rounds_succ]
  obtain ⟨a1, -⟩ := HT1.out.tcell
  have b1 := HS.out _ _ _ HT1.out
  go_wp2_with fail
  ((with_reducible refine (columns_c _ _ _).mono ?_); rintro en wc1 ⟨rfl, rfl⟩)
  clear a1 b1
  go_wp2_with fail
  ((with_reducible refine (firstT_c hg KK1.out.p.tab HT1.out _ KK1.out.col).mono ?_); rintro en wd1 ⟨rfl, hb1⟩)
  have HTa1 := Lib.hid (HT1.out.later hb1)
  have HKa1 := Lib.hid (HK1.out.trans (Kp.below hb1))
  clear hb1 HT1 HK1
  simp only [fsV]
  have HLV1 := Lib.hid (leaving_c hg KK1.out.p.tab HTa1.out KK1.out.p.hc)
  rw [KK1.out.lv] at HLV1
  go_wp2_with fail
  ((with_reducible refine HLV1.out.mono ?_); rintro en we1 ⟨rfl, hb1⟩)
  have HTb1 := Lib.hid (HTa1.out.later hb1)
  have HKb1 := Lib.hid (HKa1.out.trans (Kp.below hb1))
  have y1 : decide ((r1 : Int) < 0) = false := decide_eq_false (by omega)
  clear hb1 HTa1 HKa1 HLV1
  go_wp2_with fail
  ((with_reducible refine (pivT_c hg KK1.out.p HTb1.out).mono ?_); rintro en wf1 ⟨rfl, hT1, hK1⟩)
  rw [← KK1.out.next] at hT1
  have HT2 := Lib.hid hT1
  have HK2 := Lib.hid (HKb1.out.trans hK1)
  clear hT1 hK1 HTb1 HKb1 y1
  go_wp2_with fail
  rw [rounds_succ]
  obtain ⟨a2, -⟩ := HT2.out.tcell
  have b2 := HS.out _ _ _ HT2.out
  go_wp2_with fail
  ((with_reducible refine (columns_c _ _ _).mono ?_); rintro en wc2 ⟨rfl, rfl⟩)
  clear a2 b2
  go_wp2_with fail
  ((with_reducible refine (firstT_c hg htn HT2.out _ hend).mono ?_); rintro en wd2 ⟨rfl, hb2⟩)
  have HTa2 := Lib.hid (HT2.out.later hb2)
  have HKa2 := Lib.hid (HK2.out.trans (Kp.below hb2))
  clear hb2 HT2 HK2
  simp only [fsV]
  go_wp2
  go_ret
  exact ⟨rfl, HTa2.out, HKa2.out⟩
set_option maxRecDepth 100000 in
set_option maxHeartbeats 4000000 in
theorem climb3_c {w0 W : World} (hg : Good w0) {ad : Nat → Nat} {cr cb : Nat} {t : Lp.Tab} {ban : Int} (hok : Lp.okN ban t 3 = true) (h : TB w0 ad cr cb W (tX t) t.bas) :
    Calls Tryz.prog 73 #[.pointer (some ⟨ad 10, 0, none⟩), .func (.func 74) #[] #[], .int .i64 ban] W (TtP w0 ad cr cb W (Lp.itT ban t 3) (.bool true)) := by
  obtain ⟨hs, hend, htn⟩ := okN_is hok
  obtain ⟨r0, c0, k0⟩ := hs 0 (by omega)
  obtain ⟨r1, c1, k1⟩ := hs 1 (by omega)
  obtain ⟨r2, c2, k2⟩ := hs 2 (by omega)
  have HT0 := Lib.hid (show TB w0 ad cr cb W (tX (Lp.itT ban t 0)) (Lp.itT ban t 0).bas from h)
  have HK0 := Lib.hid (Kp.refl ad W)
  clear hs hok h
  obtain ⟨t0, ht0⟩ : ∃ x, Lp.itT ban t 0 = x := ⟨_, rfl⟩
  obtain ⟨t1, ht1⟩ : ∃ x, Lp.itT ban t 1 = x := ⟨_, rfl⟩
  obtain ⟨t2, ht2⟩ : ∃ x, Lp.itT ban t 2 = x := ⟨_, rfl⟩
  obtain ⟨t3, ht3⟩ : ∃ x, Lp.itT ban t 3 = x := ⟨_, rfl⟩
  rw [ht0, ht1] at k0
  rw [ht1, ht2] at k1
  rw [ht2, ht3] at k2
  rw [ht0] at HT0
  rw [ht3] at hend htn
  rw [ht3]
  clear ht0 ht1 ht2 ht3
  have KK0 := Lib.hid k0
  have KK1 := Lib.hid k1
  have KK2 := Lib.hid k2
  clear k0 k1 k2
  have HSW : ∀ W' X' b', TB w0 ad cr cb W' X' b' → W'.cell? ⟨ad 9, 0, none⟩ = some (.int .i64 0) := fun W' X' b' T => one_cell T.sum
  have HS := Lib.hid HSW
  clear HSW
  go_enter Tryz.func73, Tryz.ntmps73
  go_wp2_with fail
  refine wp_loop_rounds 4 ?_
  rw [rounds_succ]
  obtain ⟨a0, -⟩ := HT0.out.tcell
  have b0 := HS.out _ _ _ HT0.out
  go_wp2_with fail
  ((with_reducible refine (columns_c _ _ _).mono ?_); rintro en wc0 ⟨rfl, rfl⟩)
  clear a0 b0
  go_wp2_with fail
  ((with_reducible refine (firstT_c hg KK0.out.p.tab HT0.out _ KK0.out.col).mono ?_); rintro en wd0 ⟨rfl, hb0⟩)
  have HTa0 := Lib.hid (HT0.out.later hb0)
  have HKa0 := Lib.hid (HK0.out.trans (Kp.below hb0))
  clear hb0 HT0 HK0
  simp only [fsV]
  have HLV0 := Lib.hid (leaving_c hg KK0.out.p.tab HTa0.out KK0.out.p.hc)
  rw [KK0.out.lv] at HLV0
  go_wp2_with fail
  ((with_reducible refine HLV0.out.mono ?_); rintro en we0 ⟨rfl, hb0⟩)
  have HTb0 := Lib.hid (HTa0.out.later hb0)
  have HKb0 := Lib.hid (HKa0.out.trans (Kp.below hb0))
  have y0 : decide ((r0 : Int) < 0) = false := decide_eq_false (by omega)
  clear hb0 HTa0 HKa0 HLV0
  go_wp2_with fail
  ((with_reducible refine (pivT_c hg KK0.out.p HTb0.out).mono ?_); rintro en wf0 ⟨rfl, hT0, hK0⟩)
  rw [← KK0.out.next] at hT0
  have HT1 := Lib.hid hT0
  have HK1 := Lib.hid (HKb0.out.trans hK0)
  clear hT0 hK0 HTb0 HKb0 y0
  go_wp2_with fail
  rw [rounds_succ]
  obtain ⟨a1, -⟩ := HT1.out.tcell
  have b1 := HS.out _ _ _ HT1.out
  go_wp2_with fail
  ((with_reducible refine (columns_c _ _ _).mono ?_); rintro en wc1 ⟨rfl, rfl⟩)
  clear a1 b1
  go_wp2_with fail
  ((with_reducible refine (firstT_c hg KK1.out.p.tab HT1.out _ KK1.out.col).mono ?_); rintro en wd1 ⟨rfl, hb1⟩)
  have HTa1 := Lib.hid (HT1.out.later hb1)
  have HKa1 := Lib.hid (HK1.out.trans (Kp.below hb1))
  clear hb1 HT1 HK1
  simp only [fsV]
  have HLV1 := Lib.hid (leaving_c hg KK1.out.p.tab HTa1.out KK1.out.p.hc)
  rw [KK1.out.lv] at HLV1
  go_wp2_with fail
  ((with_reducible refine HLV1.out.mono ?_); rintro en we1 ⟨rfl, hb1⟩)
  have HTb1 := Lib.hid (HTa1.out.later hb1)
  have HKb1 := Lib.hid (HKa1.out.trans (Kp.below hb1))
  have y1 : decide ((r1 : Int) < 0) = false := decide_eq_false (by omega)
  clear hb1 HTa1 HKa1 HLV1
  go_wp2_with fail
  ((with_reducible refine (pivT_c hg KK1.out.p HTb1.out).mono ?_); rintro en wf1 ⟨rfl, hT1, hK1⟩)
  rw [← KK1.out.next] at hT1
  have HT2 := Lib.hid hT1
  have HK2 := Lib.hid (HKb1.out.trans hK1)
  clear hT1 hK1 HTb1 HKb1 y1
  go_wp2_with fail
  rw [rounds_succ]
  obtain ⟨a2, -⟩ := HT2.out.tcell
  have b2 := HS.out _ _ _ HT2.out
  go_wp2_with fail
  ((with_reducible refine (columns_c _ _ _).mono ?_); rintro en wc2 ⟨rfl, rfl⟩)
  clear a2 b2
  go_wp2_with fail
  ((with_reducible refine (firstT_c hg KK2.out.p.tab HT2.out _ KK2.out.col).mono ?_); rintro en wd2 ⟨rfl, hb2⟩)
  have HTa2 := Lib.hid (HT2.out.later hb2)
  have HKa2 := Lib.hid (HK2.out.trans (Kp.below hb2))
  clear hb2 HT2 HK2
  simp only [fsV]
  have HLV2 := Lib.hid (leaving_c hg KK2.out.p.tab HTa2.out KK2.out.p.hc)
  rw [KK2.out.lv] at HLV2
  go_wp2_with fail
  ((with_reducible refine HLV2.out.mono ?_); rintro en we2 ⟨rfl, hb2⟩)
  have HTb2 := Lib.hid (HTa2.out.later hb2)
  have HKb2 := Lib.hid (HKa2.out.trans (Kp.below hb2))
  have y2 : decide ((r2 : Int) < 0) = false := decide_eq_false (by omega)
  clear hb2 HTa2 HKa2 HLV2
  go_wp2_with fail
  ((with_reducible refine (pivT_c hg KK2.out.p HTb2.out).mono ?_); rintro en wf2 ⟨rfl, hT2, hK2⟩)
  rw [← KK2.out.next] at hT2
  have HT3 := Lib.hid hT2
  have HK3 := Lib.hid (HKb2.out.trans hK2)
  clear hT2 hK2 HTb2 HKb2 y2
  go_wp2_with fail
  rw [rounds_succ]
  obtain ⟨a3, -⟩ := HT3.out.tcell
  have b3 := HS.out _ _ _ HT3.out
  go_wp2_with fail
  ((with_reducible refine (columns_c _ _ _).mono ?_); rintro en wc3 ⟨rfl, rfl⟩)
  clear a3 b3
  go_wp2_with fail
  ((with_reducible refine (firstT_c hg htn HT3.out _ hend).mono ?_); rintro en wd3 ⟨rfl, hb3⟩)
  have HTa3 := Lib.hid (HT3.out.later hb3)
  have HKa3 := Lib.hid (HK3.out.trans (Kp.below hb3))
  clear hb3 HT3 HK3
  simp only [fsV]
  go_wp2
  go_ret
  exact ⟨rfl, HTa3.out, HKa3.out⟩
end Go.Proofs.Wk
/- slices.Repeat OF ONE NUMBER 0. -/
namespace Go.Proofs.Wk
open Go.RowKit Mt

abbrev repC (N m : Nat) : Array Value := (List.replicate m ((Value.string ⟨(rtoa 0).toArray⟩)) ++ List.replicate (N - m) (Value.string ⟨#[]⟩)).toArray
theorem rep_src {N m : Nat} {W : World} {g : Nat} {T : TypeId} (h : W.heap[g]? = some (.cells (repC N m) T (0, 0))) {k : Nat} (hk : k ≤ m) :
    ∀ j v, (List.replicate k ((Value.string ⟨(rtoa 0).toArray⟩)))[j]? = some v → W.cell? ((⟨g, 0, none⟩ : Addr).add j) = some v := by
  intro j v hv
  have hj : j < k := by have := (List.getElem?_eq_some_iff.1 hv).1; simpa using this
  rw [show (⟨g, 0, none⟩ : Addr).add j = ⟨g, j, none⟩ by (simp [Addr.add]; try (intro e; exact e.symm)), cell_of_row _ _ _ _ _ _ h]
  rw [List.getElem?_replicate, if_pos hj] at hv
  simp only [repC, List.getElem?_toArray]
  rw [List.getElem?_append_left (by simp; omega), List.getElem?_replicate, if_pos (by omega)]
  exact hv
theorem rep_next {N m k : Nat} (h : m + k ≤ N) : ((repC N m).toList.take m ++ List.replicate k ((Value.string ⟨(rtoa 0).toArray⟩)) ++ (repC N m).toList.drop (m + (List.replicate k ((Value.string ⟨(rtoa 0).toArray⟩))).length)).toArray = repC N (m + k) := by
  unfold repC
  congr 1
  simp only [List.length_replicate]
  rw [List.take_left' (by simp), List.drop_append, List.drop_of_length_le (by simp), List.nil_append, List.drop_replicate, List.length_replicate, List.replicate_append_replicate]
  congr 2
  omega
set_option maxRecDepth 100000 in
theorem mul_16 (w : World) : Calls Tryz.prog 168 #[.int .u64 1, .int .u64 16] w (Ret w (.tuple #[.int .u64 0, .int .u64 16])) := by
  have hB := Below.refl w.heap.size w
  go_enter Tryz.func168, Tryz.ntmps168
  go_wp2
  go_ret2
  exact ⟨rfl, hB⟩
set_option maxRecDepth 100000 in
theorem mul_15 (w : World) : Calls Tryz.prog 168 #[.int .u64 1, .int .u64 15] w (Ret w (.tuple #[.int .u64 0, .int .u64 15])) := by
  have hB := Below.refl w.heap.size w
  go_enter Tryz.func168, Tryz.ntmps168
  go_wp2
  go_ret2
  exact ⟨rfl, hB⟩
set_option maxRecDepth 100000 in
theorem mulu_c {n : Nat} (w : World) (H : Calls Tryz.prog 168 #[.int .u64 1, .int .u64 (n : Int)] w (Ret w (.tuple #[.int .u64 0, .int .u64 (n : Int)]))) :
    Calls Tryz.prog 142 #[.int .u64 1, .int .u64 (n : Int)] w (Ret w (.tuple #[.int .u64 0, .int .u64 (n : Int)])) := by
  have HF := Lib.hid H
  clear H
  go_enter Tryz.func142, Tryz.ntmps142
  go_wp2_with fail
  ((with_reducible refine HF.out.mono ?_); rintro e w1 ⟨rfl, hb1⟩)
  clear HF
  go_wp2
  go_ret2
  exact ⟨rfl, hb1⟩
/- the whole -/
def RpP (W : World) (N : Nat) (e : Ending) (W' : World) : Prop := ∃ g, e = .returned (.slice (some ⟨g, 0, none⟩) N N) ∧ W.heap.size ≤ g ∧ W'.heap[g]? = some (.cells (rtC (List.replicate N 0)) 27 (0, 0)) ∧ Below W.heap.size W W'
theorem rep_done (N : Nat) : repC N N = rtC (List.replicate N 0) := by
  unfold repC rtC
  rw [Nat.sub_self, List.replicate_zero, List.append_nil, List.map_replicate]
  rfl
theorem rep_run {N m k : Nat} (W : World) {g : Nat} {a : Addr} (sl sc dc ty : Nat) (hW : W.heap[g]? = some (.cells (repC N m) 27 (0, 0))) (hk : m + k ≤ N) (hn : k = Nat.min sl (N - m)) (hs : ∀ j v, (List.replicate k ((Value.string ⟨(rtoa 0).toArray⟩)))[j]? = some v → W.cell? (a.add j) = some v) :
    (Builtin.copy_ #[64, 64] ty #[.slice (some ⟨g, m, none⟩) (N - m) dc, .slice (some a) sl sc]).run Tryz.prog W = .ok (goInt ((k : Nat) : Int)) (W.setRow g (repC N (m + k))) := by
  have := run_copy_rowK (P := Tryz.prog) W 64 64 ty 27 g m (N - m) dc a sl sc (repC N m) 27 (List.replicate k ((Value.string ⟨(rtoa 0).toArray⟩))) 1 k Tryz.underlying64 (by kernel_rfl) hW hn (by simp) hs
    (by simp [repC]; omega) (fun v hv => by rw [List.eq_of_mem_replicate hv]; rfl)
  rw [this, rep_next hk]
set_option maxRecDepth 100000 in
theorem mk_run16 (W : World) : (Instr.makeSlice 64 (.int .i64 16) (.int .i64 16)).run Tryz.prog W = .ok (.slice (some ⟨W.heap.size, 0, none⟩) 16 16) (W.alloc (.cells (repC 16 0) 27)) := by kernel_rfl
set_option maxRecDepth 100000 in
set_option maxHeartbeats 4000000 in
theorem rep16_c {b : Nat} (W : World) (h : W.cell? ⟨b, 0, none⟩ = some ((Value.string ⟨(rtoa 0).toArray⟩))) : Calls Tryz.prog 103 #[.slice (some ⟨b, 0, none⟩) 1 1, .int .i64 16] W (RpP W 16) := by
  have HM := Lib.hid (show Calls Tryz.prog 142 #[.int .u64 1, .int .u64 16] W (Ret W (.tuple #[.int .u64 0, .int .u64 16])) from mulu_c (n := 16) W (mul_16 W))
  have HR := Lib.hid (fun (W' : World) (g : Nat) (m k : Nat) (a : Addr) (sl sc dc ty : Nat) (hW : W'.heap[g]? = some (.cells (repC 16 m) 27 (0, 0))) hk hn hs => rep_run (N := 16) (k := k) W' sl sc dc ty hW hk (a := a) hn hs)
  have HD := Lib.hid (rep_done 16)
  have hlt : b < W.heap.size := World.block_lt_of_cell? W ⟨b, 0, none⟩ h
  have HC := Lib.hid (fun W' (hb : Below W.heap.size W W') => (by rw [hb.cell (p := ⟨b, 0, none⟩) hlt]; exact h : W'.cell? ⟨b, 0, none⟩ = some ((Value.string ⟨(rtoa 0).toArray⟩))))
  clear h
  go_enter Tryz.func103, Tryz.ntmps103
  go_wp2_with fail
  ((with_reducible refine HM.out.mono ?_); rintro en w1 ⟨rfl, hb1⟩)
  have hsz := hb1.size
  clear HM
  have HMK := @mk_run16
  obtain ⟨w2, hw2⟩ : ∃ x, w1.alloc (.cells (repC 16 0) 27) = x := ⟨_, rfl⟩
  have g0 : w2.heap[w1.heap.size]? = some (.cells (repC 16 0) 27 (0, 0)) := hw2 ▸ heap_alloc_new w1 _
  have hb2 : Below W.heap.size W w2 := hw2 ▸ hb1.nxt ((Below.refl _ _).alloc (Nat.le_refl _) _)
  have c0 := HC.out _ hb2
  have hmk := HMK w1
  rw [hw2] at hmk
  clear HMK hb1 HC hw2
  generalize w1.heap.size = g at *
  have H0 := Lib.hid (fun ty => (show (Builtin.copy_ #[64, 64] ty #[.slice (some ⟨g, 0, none⟩) 16 16, .slice (some ⟨b, 0, none⟩) 1 1]).run Tryz.prog w2 = .ok (goInt 1) (w2.setRow g (repC 16 1)) from rep_run (N := 16) (m := 0) (k := 1) w2 1 1 16 ty g0 (by omega) (by decide) (fun j v hv => by
    match j, hv with
    | 0, hv => obtain rfl := Option.some.inj hv; exact c0)))
  have g1 := setRow_heap w2 g _ (repC 16 1) _ _ g0
  have hb3 := Below.row hb2 hsz (repC 16 1)
  clear c0 g0 hb2
  go_wp2_with (refine wpList_cpy_run _ rfl _ _ 64 64 rfl _ _ rfl rfl (H0.out _) ?_)
  clear H0 hmk
  generalize w2.setRow g (repC 16 1) = v1 at *
  refine wp_loop_rounds 5 ?_
  rw [rounds_succ]
  have H1 := Lib.hid (fun ty => (show (Builtin.copy_ #[64, 64] ty #[.slice (some ⟨g, 1, none⟩) 15 15, .slice (some ⟨g, 0, none⟩) 1 16]).run Tryz.prog v1.drew = .ok (goInt 1) (v1.drew.setRow g (repC 16 2)) from rep_run (N := 16) (m := 1) (k := 1) v1.drew 1 16 15 ty g1 (by omega) (by decide) (rep_src (N := 16) (m := 1) g1 (by omega))))
  have g2 := setRow_heap v1.drew g _ (repC 16 2) _ _ g1
  have hb4 := Below.row hb3.drew hsz (repC 16 2)
  clear g1 hb3
  go_wp2_with fail
  go_region_law (refine step_cpy_run rfl _ _ 64 64 rfl _ _ (by simp [Act.eval, Act.put]) (by simp [Act.eval, Act.put]) (H1.out _) ?_)
  clear H1
  generalize v1.drew.setRow g (repC 16 2) = v2 at *
  go_wp2_with fail
  rw [rounds_succ]
  have H2 := Lib.hid (fun ty => (show (Builtin.copy_ #[64, 64] ty #[.slice (some ⟨g, 2, none⟩) 14 14, .slice (some ⟨g, 0, none⟩) 2 16]).run Tryz.prog v2.drew = .ok (goInt 2) (v2.drew.setRow g (repC 16 4)) from rep_run (N := 16) (m := 2) (k := 2) v2.drew 2 16 14 ty g2 (by omega) (by decide) (rep_src (N := 16) (m := 2) g2 (by omega))))
  have g3 := setRow_heap v2.drew g _ (repC 16 4) _ _ g2
  have hb5 := Below.row hb4.drew hsz (repC 16 4)
  clear g2 hb4
  go_wp2_with fail
  go_region_law (refine step_cpy_run rfl _ _ 64 64 rfl _ _ (by simp [Act.eval, Act.put]) (by simp [Act.eval, Act.put]) (H2.out _) ?_)
  clear H2
  generalize v2.drew.setRow g (repC 16 4) = v3 at *
  go_wp2_with fail
  rw [rounds_succ]
  have H3 := Lib.hid (fun ty => (show (Builtin.copy_ #[64, 64] ty #[.slice (some ⟨g, 4, none⟩) 12 12, .slice (some ⟨g, 0, none⟩) 4 16]).run Tryz.prog v3.drew = .ok (goInt 4) (v3.drew.setRow g (repC 16 8)) from rep_run (N := 16) (m := 4) (k := 4) v3.drew 4 16 12 ty g3 (by omega) (by decide) (rep_src (N := 16) (m := 4) g3 (by omega))))
  have g4 := setRow_heap v3.drew g _ (repC 16 8) _ _ g3
  have hb6 := Below.row hb5.drew hsz (repC 16 8)
  clear g3 hb5
  go_wp2_with fail
  go_region_law (refine step_cpy_run rfl _ _ 64 64 rfl _ _ (by simp [Act.eval, Act.put]) (by simp [Act.eval, Act.put]) (H3.out _) ?_)
  clear H3
  generalize v3.drew.setRow g (repC 16 8) = v4 at *
  go_wp2_with fail
  rw [rounds_succ]
  have H4 := Lib.hid (fun ty => (show (Builtin.copy_ #[64, 64] ty #[.slice (some ⟨g, 8, none⟩) 8 8, .slice (some ⟨g, 0, none⟩) 8 16]).run Tryz.prog v4.drew = .ok (goInt 8) (v4.drew.setRow g (repC 16 16)) from rep_run (N := 16) (m := 8) (k := 8) v4.drew 8 16 8 ty g4 (by omega) (by decide) (rep_src (N := 16) (m := 8) g4 (by omega))))
  have g5 := setRow_heap v4.drew g _ (repC 16 16) _ _ g4
  have hb7 := Below.row hb6.drew hsz (repC 16 16)
  clear g4 hb6
  go_wp2_with fail
  go_region_law (refine step_cpy_run rfl _ _ 64 64 rfl _ _ (by simp [Act.eval, Act.put]) (by simp [Act.eval, Act.put]) (H4.out _) ?_)
  clear H4
  generalize v4.drew.setRow g (repC 16 16) = v5 at *
  go_wp2_with fail
  rw [rounds_succ]
  go_wp2
  go_ret
  exact ⟨g, rfl, hsz, HD.out ▸ g5, hb7⟩
set_option maxRecDepth 100000 in
theorem mk_run15 (W : World) : (Instr.makeSlice 64 (.int .i64 15) (.int .i64 15)).run Tryz.prog W = .ok (.slice (some ⟨W.heap.size, 0, none⟩) 15 15) (W.alloc (.cells (repC 15 0) 27)) := by kernel_rfl
set_option maxRecDepth 100000 in
set_option maxHeartbeats 4000000 in
theorem rep15_c {b : Nat} (W : World) (h : W.cell? ⟨b, 0, none⟩ = some ((Value.string ⟨(rtoa 0).toArray⟩))) : Calls Tryz.prog 103 #[.slice (some ⟨b, 0, none⟩) 1 1, .int .i64 15] W (RpP W 15) := by
  have HM := Lib.hid (show Calls Tryz.prog 142 #[.int .u64 1, .int .u64 15] W (Ret W (.tuple #[.int .u64 0, .int .u64 15])) from mulu_c (n := 15) W (mul_15 W))
  have HR := Lib.hid (fun (W' : World) (g : Nat) (m k : Nat) (a : Addr) (sl sc dc ty : Nat) (hW : W'.heap[g]? = some (.cells (repC 15 m) 27 (0, 0))) hk hn hs => rep_run (N := 15) (k := k) W' sl sc dc ty hW hk (a := a) hn hs)
  have HD := Lib.hid (rep_done 15)
  have hlt : b < W.heap.size := World.block_lt_of_cell? W ⟨b, 0, none⟩ h
  have HC := Lib.hid (fun W' (hb : Below W.heap.size W W') => (by rw [hb.cell (p := ⟨b, 0, none⟩) hlt]; exact h : W'.cell? ⟨b, 0, none⟩ = some ((Value.string ⟨(rtoa 0).toArray⟩))))
  clear h
  go_enter Tryz.func103, Tryz.ntmps103
  go_wp2_with fail
  ((with_reducible refine HM.out.mono ?_); rintro en w1 ⟨rfl, hb1⟩)
  have hsz := hb1.size
  clear HM
  have HMK := @mk_run15
  obtain ⟨w2, hw2⟩ : ∃ x, w1.alloc (.cells (repC 15 0) 27) = x := ⟨_, rfl⟩
  have g0 : w2.heap[w1.heap.size]? = some (.cells (repC 15 0) 27 (0, 0)) := hw2 ▸ heap_alloc_new w1 _
  have hb2 : Below W.heap.size W w2 := hw2 ▸ hb1.nxt ((Below.refl _ _).alloc (Nat.le_refl _) _)
  have c0 := HC.out _ hb2
  have hmk := HMK w1
  rw [hw2] at hmk
  clear HMK hb1 HC hw2
  generalize w1.heap.size = g at *
  have H0 := Lib.hid (fun ty => (show (Builtin.copy_ #[64, 64] ty #[.slice (some ⟨g, 0, none⟩) 15 15, .slice (some ⟨b, 0, none⟩) 1 1]).run Tryz.prog w2 = .ok (goInt 1) (w2.setRow g (repC 15 1)) from rep_run (N := 15) (m := 0) (k := 1) w2 1 1 15 ty g0 (by omega) (by decide) (fun j v hv => by
    match j, hv with
    | 0, hv => obtain rfl := Option.some.inj hv; exact c0)))
  have g1 := setRow_heap w2 g _ (repC 15 1) _ _ g0
  have hb3 := Below.row hb2 hsz (repC 15 1)
  clear c0 g0 hb2
  go_wp2_with (refine wpList_cpy_run _ rfl _ _ 64 64 rfl _ _ rfl rfl (H0.out _) ?_)
  clear H0 hmk
  generalize w2.setRow g (repC 15 1) = v1 at *
  refine wp_loop_rounds 5 ?_
  rw [rounds_succ]
  have H1 := Lib.hid (fun ty => (show (Builtin.copy_ #[64, 64] ty #[.slice (some ⟨g, 1, none⟩) 14 14, .slice (some ⟨g, 0, none⟩) 1 15]).run Tryz.prog v1.drew = .ok (goInt 1) (v1.drew.setRow g (repC 15 2)) from rep_run (N := 15) (m := 1) (k := 1) v1.drew 1 15 14 ty g1 (by omega) (by decide) (rep_src (N := 15) (m := 1) g1 (by omega))))
  have g2 := setRow_heap v1.drew g _ (repC 15 2) _ _ g1
  have hb4 := Below.row hb3.drew hsz (repC 15 2)
  clear g1 hb3
  go_wp2_with fail
  go_region_law (refine step_cpy_run rfl _ _ 64 64 rfl _ _ (by simp [Act.eval, Act.put]) (by simp [Act.eval, Act.put]) (H1.out _) ?_)
  clear H1
  generalize v1.drew.setRow g (repC 15 2) = v2 at *
  go_wp2_with fail
  rw [rounds_succ]
  have H2 := Lib.hid (fun ty => (show (Builtin.copy_ #[64, 64] ty #[.slice (some ⟨g, 2, none⟩) 13 13, .slice (some ⟨g, 0, none⟩) 2 15]).run Tryz.prog v2.drew = .ok (goInt 2) (v2.drew.setRow g (repC 15 4)) from rep_run (N := 15) (m := 2) (k := 2) v2.drew 2 15 13 ty g2 (by omega) (by decide) (rep_src (N := 15) (m := 2) g2 (by omega))))
  have g3 := setRow_heap v2.drew g _ (repC 15 4) _ _ g2
  have hb5 := Below.row hb4.drew hsz (repC 15 4)
  clear g2 hb4
  go_wp2_with fail
  go_region_law (refine step_cpy_run rfl _ _ 64 64 rfl _ _ (by simp [Act.eval, Act.put]) (by simp [Act.eval, Act.put]) (H2.out _) ?_)
  clear H2
  generalize v2.drew.setRow g (repC 15 4) = v3 at *
  go_wp2_with fail
  rw [rounds_succ]
  have H3 := Lib.hid (fun ty => (show (Builtin.copy_ #[64, 64] ty #[.slice (some ⟨g, 4, none⟩) 11 11, .slice (some ⟨g, 0, none⟩) 4 15]).run Tryz.prog v3.drew = .ok (goInt 4) (v3.drew.setRow g (repC 15 8)) from rep_run (N := 15) (m := 4) (k := 4) v3.drew 4 15 11 ty g3 (by omega) (by decide) (rep_src (N := 15) (m := 4) g3 (by omega))))
  have g4 := setRow_heap v3.drew g _ (repC 15 8) _ _ g3
  have hb6 := Below.row hb5.drew hsz (repC 15 8)
  clear g3 hb5
  go_wp2_with fail
  go_region_law (refine step_cpy_run rfl _ _ 64 64 rfl _ _ (by simp [Act.eval, Act.put]) (by simp [Act.eval, Act.put]) (H3.out _) ?_)
  clear H3
  generalize v3.drew.setRow g (repC 15 8) = v4 at *
  go_wp2_with fail
  rw [rounds_succ]
  have H4 := Lib.hid (fun ty => (show (Builtin.copy_ #[64, 64] ty #[.slice (some ⟨g, 8, none⟩) 7 7, .slice (some ⟨g, 0, none⟩) 8 15]).run Tryz.prog v4.drew = .ok (goInt 7) (v4.drew.setRow g (repC 15 15)) from rep_run (N := 15) (m := 8) (k := 7) v4.drew 8 15 7 ty g4 (by omega) (by decide) (rep_src (N := 15) (m := 8) g4 (by omega))))
  have g5 := setRow_heap v4.drew g _ (repC 15 15) _ _ g4
  have hb7 := Below.row hb6.drew hsz (repC 15 15)
  clear g4 hb6
  go_wp2_with fail
  go_region_law (refine step_cpy_run rfl _ _ 64 64 rfl _ _ (by simp [Act.eval, Act.put]) (by simp [Act.eval, Act.put]) (H4.out _) ?_)
  clear H4
  generalize v4.drew.setRow g (repC 15 15) = v5 at *
  go_wp2_with fail
  rw [rounds_succ]
  go_wp2
  go_ret
  exact ⟨g, rfl, hsz, HD.out ▸ g5, hb7⟩
end Go.Proofs.Wk
/- LINEAR PROGRAMS: bounds in memory; a table that is being laid. -/
namespace Lp
/-- A row whose first k numbers are laid, with their negatives. -/
def rowS (b : List Rat) : Nat → List Rat
  | 0 => List.replicate 16 0
  | k + 1 => ((rowS b k).set k (at_ b k)).set (4 + k) (-(at_ b k))
def rowE (i : Nat) (b : List Rat) (m : Rat) : List Rat := (((rowS b 4).set (8 + i) 1).set 14 (-1)).set 15 m
theorem rowS_len (b : List Rat) : ∀ k, (rowS b k).length = 16
  | 0 => by simp [rowS]
  | k + 1 => by simp [rowS, rowS_len b k]
theorem rowE_len (i : Nat) (b : List Rat) (m : Rat) : (rowE i b m).length = 16 := by simp [rowE, rowS_len]
end Lp
namespace Go.Proofs.Wk
open Go.RowKit Mt

theorem cellB {w w' : World} {g k : Nat} {v : Value} (h : w.cell? ⟨g, k, none⟩ = some v) (hb : Below w.heap.size w w') : w'.cell? ⟨g, k, none⟩ = some v := by
  rw [hb.cell (p := ⟨g, k, none⟩) (World.block_lt_of_cell? w ⟨g, k, none⟩ h)]; exact h
theorem cellB2 {w w' : World} {g k B : Nat} {v : Value} (h : w.cell? ⟨g, k, none⟩ = some v) (hb : Below B w w') (hB : w.heap.size ≤ B) : w'.cell? ⟨g, k, none⟩ = some v := cellB h (hb.mono hB)
/-- Six bounds on four unknowns. -/
def Bds (W : World) (gB off : Nat) (rb : Nat → Nat) (B : Nat → List Rat × Rat) : Prop :=
  ∀ i, i < 6 → W.cell? ⟨gB, off + i * 2, none⟩ = some (.slice (some ⟨rb i, 0, none⟩) 4 4) ∧ W.cell? ⟨gB, off + i * 2 + 1, none⟩ = some ((Value.string ⟨(rtoa (B i).2).toArray⟩)) ∧ ∀ k, k < 4 → W.cell? ⟨rb i, k, none⟩ = some ((Value.string ⟨(rtoa (Lp.at_ (B i).1 k)).toArray⟩))
theorem Bds.later {W W' : World} {gB off : Nat} {rb : Nat → Nat} {B : Nat → List Rat × Rat} (h : Bds W gB off rb B) (hb : Below W.heap.size W W') : Bds W' gB off rb B := fun i hi =>
  ⟨cellB (h i hi).1 hb, cellB (h i hi).2.1 hb, fun k hk => cellB ((h i hi).2.2 k hk) hb⟩
/-- The blocks of a type stay. -/
def Tk (e : TypeId) (w w' : World) : Prop := ∀ (g : Nat) (cs : Array Value) (fr : Nat × Nat), w.heap[g]? = some (Obj.cells cs e fr) → w'.heap[g]? = w.heap[g]?
theorem Tk.below {e : TypeId} {w w' : World} (h : Below w.heap.size w w') : Tk e w w' := fun g _ _ hg => h.block g (Array.getElem?_eq_some_iff.1 hg).1
theorem Tk.set {e : TypeId} {w : World} {g k : Nat} {cs : Array Value} {T : TypeId} {fr : Nat × Nat} (h : w.heap[g]? = some (.cells cs T fr)) (hne : e ≠ T) (v : Value) : Tk e w (w.setCell ⟨g, k, none⟩ v) := fun g' cs' fr' hg' =>
  heap_setCell_other w ⟨g, k, none⟩ g' v (by rintro rfl; rw [h] at hg'; cases hg'; exact hne rfl)
theorem Tk.grown {e T : TypeId} {w w' : World} {base n size : Nat} {v : Value} {xs : List Value} (h : w.ownsRow base T size v n xs) (hg : w.grownBy w' v.ownBlock) (hne : e ≠ T) : Tk e w w' := fun g cs fr hg' => by
  refine hg.block g (Array.getElem?_eq_some_iff.1 hg').1 fun e1 => ?_
  rcases h.2 with ⟨rfl, -⟩ | ⟨b, cap, cur, rfl, -, hb, -⟩
  · cases e1
  · obtain rfl : g = b := Option.some.inj e1
    rw [hb] at hg'
    cases hg'
    exact hne rfl
theorem Tk.own {e : TypeId} {w w' : World} {base n size : Nat} {v : Value} {xs : List Value} (h : w.ownsRow base e size v n xs) (k : Tk e w w') : w'.ownsRow base e size v n xs := by
  refine ⟨h.1, ?_⟩
  rcases h.2 with q | ⟨b, cap, cur, e1, e2, hb, e3⟩
  · exact .inl q
  · exact .inr ⟨b, cap, cur, e1, e2, (k _ _ _ hb).trans hb, e3⟩
theorem Tk.keep {e : TypeId} {w w' : World} {g : Nat} {cs : Array Value} {fr : Nat × Nat} (k : Tk e w w') (h : w.heap[g]? = some (.cells cs e fr)) : w'.heap[g]? = some (.cells cs e fr) := (k _ _ _ h).trans h
theorem Tk.trans {e : TypeId} {a b c : World} (h : Tk e a b) (k : Tk e b c) : Tk e a c := fun g cs fr hg => (k g cs fr (h.keep hg)).trans (h g cs fr hg)
theorem own_below {w w' : World} {B base n size : Nat} {T : TypeId} {v : Value} {xs : List Value} {a : World} (hB : Below B a w) (hw : B ≤ w.heap.size) (h : w.ownsRow base T size v n xs) (hb : B ≤ base) (hg : w.grownBy w' v.ownBlock) : Below B a w' :=
  ⟨hg.os.trans hB.os, hg.tape.trans hB.tape, hg.output.trans hB.output, Nat.le_trans hB.size hg.size, fun k hk => by
    refine (hg.block k (Nat.lt_of_lt_of_le hk hw) fun e1 => ?_).trans (hB.block k hk)
    rcases h.2 with ⟨rfl, -⟩ | ⟨b, cap, cur, rfl, e2, -⟩
    · cases e1
    · have : k = b := Option.some.inj e1
      omega⟩
/-- The header of a row. -/
def hdV (g : Nat) : Value := .slice (some ⟨g, 0, none⟩) 16 16
/-- A table that is being laid: so many rows, so long a basis. -/
structure LdM (w0 : World) (gs gt : Nat) (W : World) (nr nb : Nat) (rs : List Nat) (vr vb : Value) (R : Nat → List Rat) : Prop where
  bel : Below w0.heap.size w0 W
  lo : w0.heap.size ≤ gs ∧ w0.heap.size ≤ gt
  tab : W.heap[gt]? = some (.cells #[.pointer (some ⟨gs, 0, none⟩), .int .i64 4, .int .i64 6, vr, vb, .slice none 0 0] 134 (0, 0))
  sum : PgS W gs
  asl : rs.length = nr
  own : W.ownsRow w0.heap.size 64 1 vr nr (rs.map hdV)
  bas : W.ownsRow w0.heap.size 3 1 vb nb ((List.range nb).map fun i => .int .i64 ((8 + i : Nat) : Int))
  row : ∀ i (h : i < rs.length), W.heap[rs[i]]? = some (.cells (rtC (R i)) 27 (0, 0)) ∧ (R i).length = 16
  low : ∀ g ∈ rs, w0.heap.size ≤ g
  nod : rs.Nodup
section
variable {w0 : World} {gs gt : Nat} {W : World} {nr nb : Nat} {rs : List Nat} {vr vb : Value} {R : Nat → List Rat}
theorem LdM.tk (h : LdM w0 gs gt W nr nb rs vr vb R) {W' : World} (hb : Below w0.heap.size w0 W') (k1 : Tk 134 W W') (k2 : Tk 136 W W') (k3 : Tk 64 W W') (k4 : Tk 3 W W') (k5 : Tk 27 W W') : LdM w0 gs gt W' nr nb rs vr vb R :=
  ⟨hb, h.lo, k1.keep h.tab, k2.keep h.sum, h.asl, k3.own h.own, k4.own h.bas, fun i hi => ⟨k5.keep (h.row i hi).1, (h.row i hi).2⟩, h.low, h.nod⟩
theorem LdM.later (h : LdM w0 gs gt W nr nb rs vr vb R) {W' : World} (hb : Below W.heap.size W W') : LdM w0 gs gt W' nr nb rs vr vb R :=
  h.tk (h.bel.nxt hb) (.below hb) (.below hb) (.below hb) (.below hb) (.below hb)
/-- A row is appended, and the list's header stored. -/
theorem LdM.appR (h : LdM w0 gs gt W nr nb rs vr vb R) {W2 : World} {v' : Value} {g : Nat} (hg : W.heap[g]? = some (.cells (rtC (R nr)) 27 (0, 0))) (hl : (R nr).length = 16) (hlo : w0.heap.size ≤ g) (hn : g ∉ rs)
    (ho : W2.ownsRow w0.heap.size 64 1 v' (nr + 1) (rs.map hdV ++ [hdV g])) (hgr : W.grownBy W2 vr.ownBlock) : LdM w0 gs gt (W2.setCell ⟨gt, 3, none⟩ v') (nr + 1) nb (rs ++ [g]) v' vb R := by
  have k : ∀ {e : TypeId}, e ≠ 64 → Tk e W W2 := fun hne => Tk.grown h.own hgr hne
  have t2 := (k (e := 134) (by decide)).keep h.tab
  have s : ∀ {e : TypeId}, e ≠ 134 → Tk e W2 (W2.setCell ⟨gt, 3, none⟩ v') := fun hne => Tk.set t2 hne v'
  have ks : ∀ {e : TypeId}, e ≠ 64 → e ≠ 134 → Tk e W (W2.setCell ⟨gt, 3, none⟩ v') := fun a b => (k a).trans (s b)
  have hb2 := own_below h.bel h.bel.size h.own (Nat.le_refl _) hgr
  refine ⟨Below.setc hb2 h.lo.2 _ _, h.lo, heap_setCell_same W2 gt 3 _ _ v' t2, (ks (by decide) (by decide)).keep h.sum, by rw [List.length_append, h.asl]; rfl, ?_, (ks (by decide) (by decide)).own h.bas, fun i hi => ?_, ?_, ?_⟩
  · rw [List.map_append]
    exact (s (by decide)).own ho
  · by_cases e : i < rs.length
    · rw [List.getElem_append_left e]
      exact ⟨(ks (by decide) (by decide)).keep (h.row i e).1, (h.row i e).2⟩
    · have hi2 : i = rs.length := by rw [List.length_append] at hi; simp at hi; omega
      subst hi2
      rw [List.getElem_append_right (Nat.le_refl _)]
      simp only [Nat.sub_self, List.getElem_cons_zero]
      rw [h.asl]
      exact ⟨(ks (by decide) (by decide)).keep hg, hl⟩
  · intro x hx
    rcases List.mem_append.1 hx with q | q
    · exact h.low x q
    · obtain rfl := List.mem_singleton.1 q; exact hlo
  · rw [List.nodup_append]
    exact ⟨h.nod, by simp, fun a ha b hb => by obtain rfl := List.mem_singleton.1 hb; rintro rfl; exact hn ha⟩
/-- A number is appended to the basis, and the list's header stored. -/
theorem LdM.appB (h : LdM w0 gs gt W nr nb rs vr vb R) {W2 : World} {v' : Value} (ho : W2.ownsRow w0.heap.size 3 1 v' (nb + 1) (((List.range nb).map fun i => .int .i64 ((8 + i : Nat) : Int)) ++ [.int .i64 ((8 + nb : Nat) : Int)])) (hgr : W.grownBy W2 vb.ownBlock) :
    LdM w0 gs gt (W2.setCell ⟨gt, 4, none⟩ v') nr (nb + 1) rs vr v' R := by
  have k : ∀ {e : TypeId}, e ≠ 3 → Tk e W W2 := fun hne => Tk.grown h.bas hgr hne
  have t2 := (k (e := 134) (by decide)).keep h.tab
  have s : ∀ {e : TypeId}, e ≠ 134 → Tk e W2 (W2.setCell ⟨gt, 4, none⟩ v') := fun hne => Tk.set t2 hne v'
  have ks : ∀ {e : TypeId}, e ≠ 3 → e ≠ 134 → Tk e W (W2.setCell ⟨gt, 4, none⟩ v') := fun a b => (k a).trans (s b)
  have hb2 := own_below h.bel h.bel.size h.bas (Nat.le_refl _) hgr
  refine ⟨Below.setc hb2 h.lo.2 _ _, h.lo, heap_setCell_same W2 gt 4 _ _ v' t2, (ks (by decide) (by decide)).keep h.sum, h.asl, (ks (by decide) (by decide)).own h.own, ?_, fun i hi => ⟨(ks (by decide) (by decide)).keep (h.row i hi).1, (h.row i hi).2⟩, h.low, h.nod⟩
  rw [List.range_succ, List.map_append]
  exact (s (by decide)).own ho
theorem LdM.not_new (h : LdM w0 gs gt W nr nb rs vr vb R) {g : Nat} (hg : W.heap.size ≤ g) : g ∉ rs := fun hm => by
  obtain ⟨i, hi, rfl⟩ := List.mem_iff_getElem.1 hm
  have := (Array.getElem?_eq_some_iff.1 (h.row i hi).1).1
  omega
end
end Go.Proofs.Wk
