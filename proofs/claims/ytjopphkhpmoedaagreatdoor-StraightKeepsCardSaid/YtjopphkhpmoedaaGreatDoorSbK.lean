/- STRAIGHTNESS: the iterator over the proofs. -/
import Derived.Test.YtjopphkhpmoedaaGreatDoorNG
import Derived.Test.YtjopphkhpmoedaaGreatDoorRng
import Derived.RangeFuncBound
import Derived.Shelf.Abstract
import Derived.Shelf.RegionOpen
import Derived.OwnWalkIn
import Derived.TacticsInMore
import Derived.LoopNIn
import Derived.LoopIn
namespace Go.Proofs.Wk
open Go.RowKit Go.Rng Mt
attribute [local go_sem] Oper.semAt_some

def PfFn (v : Value) (w : World) (e : Ending) (w' : World) : Prop := e = .returned (.func (.func 127) #[] #[.pointer (some ⟨w.heap.size, 0, none⟩)]) ∧ w' = w.alloc (.cells #[v] 22)
set_option maxRecDepth 100000 in
theorem proofs_c (a : Option Addr) (n cap : Nat) (w : World) : Calls Tryz.prog 98 #[.slice a n cap] w (PfFn (.slice a n cap) w) := by
  go_enter Tryz.func98, Tryz.ntmps98
  go_wp2
  go_ret
  exact ⟨rfl, rfl⟩
/-- How the iterator ends, and how a round is answered. -/
def PfP (J : Option St.Prf → World → Prop) (s : Option St.Prf) (e : Ending) (w : World) : Prop := (∃ v, e = .returned v) ∧ J s w
def PfY (J : Option St.Prf → World → Prop) (s : Option St.Prf) (e : Ending) (w : World) : Prop := e = .returned (.bool true) ∧ J s w
set_option maxRecDepth 100000 in
set_option maxHeartbeats 4000000 in
theorem proofs_in {v : Value} (ls : List St.Pt) (hin : ∀ p ∈ ls, St.InP p) (h0 : 0 < ls.length) (hn : ls.length ≤ 64) (cb l : Nat) (J : Option St.Prf → World → Prop) (hJ : ∀ s W1 W2, J s W1 → Below W1.heap.size W1 W2 → J s W2)
    (hJc : ∀ s W1, J s W1 → W1.cell? ⟨cb, 0, none⟩ = some v ∧ SlX W1 v ls)
    (hgo : ∀ s x W1, OkX ls x → J s W1 → YieldAt Fence.wide 0 Tryz.prog l #[prfV x] W1 (PfY J (St.bet ls s x)))
    (s0 : Option St.Prf) (W : World) (hj : J s0 W) :
    CallsIn Fence.wide 0 Tryz.prog 127 #[.func (.yield l) #[] #[], .pointer (some ⟨cb, 0, none⟩)] W (PfP J (St.allB ls 0 s0)) := by
  obtain ⟨E, hE⟩ : ∃ E, St.allB ls 0 s0 = E := ⟨_, rfl⟩
  rw [hE]
  obtain ⟨sa, cap, rfl⟩ := (hJc _ _ hj).2.len
  have HE := Lib.hid hE
  have HJ0 := Lib.hid hj
  have HJS := Lib.hid hJ
  have HJC := Lib.hid hJc
  have HGO := Lib.hid hgo
  have HSUP := Lib.hid (fun (i j : Nat) (hi : i < ls.length) (hj : j < ls.length) (W : World) (S : SlX W (.slice sa ls.length cap) ls) => supporting_c ls i j W S hin hi hj hn)
  have HOKX := Lib.hid (fun (i j : Nat) (hi : i < ls.length) (hj : j < ls.length) (h : St.okP ls i j = true) => okX_prf hin hi hj h)
  have c0 := (hJc _ _ hj).1
  clear hE hj hJ hJc hgo hin
  refine callsIn_of_wp Tryz.func127 rfl trivial ?_
  simp only [Tryz.ntmps127, List.size_toArray, List.length_cons, List.length_nil, Nat.reduceAdd, Nat.reduceSub, Array.replicate_succ, Array.replicate_zero, List.push_toArray, List.append_toArray, List.nil_append, List.cons_append]
  gi_wp2
  gi_loopw [9] (fun si wr => ∃ (i : Nat) (s : Option St.Prf), si = .int .i64 (i : Int) ∧ i ≤ ls.length ∧ Hid (St.allB ls i s = E) ∧ Hid (J s wr)) (fun si _ => ls.length - (intOf si).toNat)
  case atStart => exact ⟨0, s0, rfl, Nat.zero_le _, HE.out, HJ0.out⟩
  case round =>
    obtain ⟨i, s, rfl, hi, hs, hjw⟩ := hrel
    by_cases hlt : i < ls.length
    · have hst := hs.out
      rw [St.allB_step hlt] at hst
      have HST := Lib.hid hst
      clear hst hs c0
      gi_wp2_with fail
      gi_loopw [4] (fun sj wr => ∃ (j : Nat) (s : Option St.Prf), sj = .int .i64 (j : Int) ∧ i < j ∧ j ≤ ls.length ∧ Hid (St.allB ls (i + 1) (St.rowB ls i j s) = E) ∧ Hid (J s wr)) (fun sj _ => ls.length - (intOf sj).toNat)
      case atStart => exact ⟨i + 1, s, by go_num, by omega, by omega, HST.out, hjw.out⟩
      case round =>
        clear HST hjw
        obtain ⟨j, s2, rfl, hij, hj, hs2, hjw⟩ := hrel
        have c0 := (HJC.out _ _ hjw.out).1
        by_cases hlt2 : j < ls.length
        · have hst2 := hs2.out
          rw [St.rowB_step hlt2] at hst2
          have HSP := Lib.hid (HSUP.out i j hlt hlt2)
          have HOX := Lib.hid (HOKX.out i j hlt hlt2)
          clear hs2
          cases hok : St.okP ls i j with
          | false =>
            rw [hok] at HSP hst2
            have HST2 := Lib.hid (show St.allB ls (i + 1) (St.rowB ls i (j + 1) s2) = E from hst2)
            clear hst2 hok HOX
            generalize St.prf ls i j = x at *
            obtain ⟨xi, xj, xa, xf⟩ := x
            gi_wp2_with fail
            refine ⟨trivial, rfl, ?_⟩
            refine (callsIn_wide.2 (HSP.out _ (HJC.out _ _ hjw.out).2)).mono ?_
            rintro e w2 ⟨rfl, hb2⟩
            have HJ2 := Lib.hid (HJS.out _ _ _ (HJS.out _ _ _ hjw.out hb2) (below_al w2 (.cells #[.int .i64 (xi : Int), .int .i64 (xj : Int), .int .i64 xa, .int .i64 (xf : Int)] 88)))
            clear hjw hb2 c0
            gi_wp2_with fail
            refine ⟨fun f hf => (by cases hf), ?_⟩
            gi_wp2
            go_roundw
            case rel => exact ⟨j + 1, s2, by go_num, by omega, by omega, HST2.out, HJ2.out⟩
            case measure => simp [intOf]; omega
          | true =>
            rw [hok] at HSP hst2
            have HST2 := Lib.hid (show St.allB ls (i + 1) (St.rowB ls i (j + 1) (St.bet ls s2 (St.prf ls i j))) = E from hst2)
            have hox := HOX.out hok
            clear hst2 hok HOX
            generalize St.prf ls i j = x at *
            have HOX := Lib.hid hox
            have hgx := fun W1 hj1 => HGO.out s2 x W1 hox hj1
            generalize St.bet ls s2 x = s3 at *
            obtain ⟨xi, xj, xa, xf⟩ := x
            have HGX := Lib.hid hgx
            clear hgx hox
            gi_wp2_with fail
            refine ⟨trivial, rfl, ?_⟩
            refine (callsIn_wide.2 (HSP.out _ (HJC.out _ _ hjw.out).2)).mono ?_
            rintro e w2 ⟨rfl, hb2⟩
            have hj2 := HJS.out _ _ _ (HJS.out _ _ _ hjw.out hb2) (below_al w2 (.cells #[.int .i64 (xi : Int), .int .i64 (xj : Int), .int .i64 xa, .int .i64 (xf : Int)] 88))
            obtain ⟨fn, tmps, assign, body, hy, hRd⟩ := HGX.out _ hj2
            have HRD := Lib.hid hRd
            clear hRd hj2 hjw hb2 c0 HGX
            gi_wp2_with fail
            refine ⟨rfl, ?_⟩
            refine HRD.out.mono ?_
            rintro e w3 ⟨rfl, hj3⟩
            have HJ3 := Lib.hid hj3
            clear hj3 HRD hy
            gi_wp2
            go_roundw
            case rel => exact ⟨j + 1, s3, by go_num, by omega, by omega, HST2.out, HJ3.out⟩
            case measure => simp [intOf]; omega
        · obtain rfl : j = ls.length := by omega
          have hs3 := hs2.out
          rw [St.rowB_end (Nat.le_refl _)] at hs3
          have HS3 := Lib.hid hs3
          clear hs3 hs2
          gi_wp2
          go_roundw
          case rel => exact ⟨i + 1, s2, by go_num, by omega, HS3.out, hjw.out⟩
          case measure => simp [intOf]; omega
    · obtain rfl : i = ls.length := by omega
      have hs := hs.out
      rw [St.allB_end (Nat.le_refl _)] at hs
      subst hs
      clear HE
      gi_wp2
      refine bodyPost_ret (results_none rfl _ _ _) rfl ?_
      exact ⟨⟨_, rfl⟩, hjw.out⟩
end Go.Proofs.Wk
