/- REGISTERS OF LOTS: the reader's iterator. -/
import Derived.Test.YtmbbppiikpfkcaaGreatDoorMA
import Derived.Test.YtmbbppiikpfkcaaGreatDoorRng
import Derived.RangeFuncBound
import Derived.Shelf.Abstract
import Derived.Shelf.RegionOpen
import Derived.OwnWalkIn
import Derived.TacticsInMore
import Derived.LoopNIn
import Derived.LoopIn
namespace Go.Proofs.Wk
open Go.RowKit Go.Rng Mt
attribute [local go_sem] Oper.semAt_some

def ReadFn (b : Nat) (w : World) (e : Ending) (w' : World) : Prop := e = .returned (.func (.func 58) #[] #[.pointer (some ⟨w.heap.size, 0, none⟩)]) ∧ w' = w.alloc (.cells #[.pointer (some ⟨b, 0, none⟩)] 79)
set_option maxRecDepth 100000 in
theorem readFn_c (b : Nat) (w : World) : Calls Tryz.prog 33 #[.pointer (some ⟨b, 0, none⟩)] w (ReadFn b w) := by
  go_enter Tryz.func33, Tryz.ntmps33
  go_wp2
  go_ret
  exact ⟨rfl, rfl⟩
/-- How many bytes are left: for the loop's measure. -/
def leftB (b : Nat) (w : World) : Nat := match w.cell? ⟨b, 3, none⟩ with | some (.string s) => s.size | _ => 0
theorem leftB_at {b : Nat} {w : World} {r : Rg.Rd} (h : RdAt w b r) : leftB b w = r.rest.length := by
  obtain ⟨v, h1, -⟩ := h
  obtain ⟨-, -, -, d3⟩ := cell4 h1
  unfold leftB; rw [d3]; simp [ByteArray.size]
/-- How the iterator ends. -/
def ItP (J : World → Prop) (Jx : Rg.Rd → Int → World → Prop) (b : Nat) (r : Rg.Rd × Int) (e : Ending) (w : World) : Prop := (∃ v, e = .returned v) ∧ (r.2 = 0 ∧ RdAt w b r.1 ∧ J w ∨ r.2 ≠ 0 ∧ Jx r.1 r.2 w)
def YdT (J : World → Prop) (b : Nat) (r : Rg.Rd) (e : Ending) (w : World) : Prop := e = .returned (.bool true) ∧ RdAt w b r ∧ J w
def YdF (Jx : Rg.Rd → Int → World → Prop) (r : Rg.Rd) (c : Int) (e : Ending) (w : World) : Prop := e = .returned (.bool false) ∧ Jx r c w
theorem line_ok {b : Nat} {r : Rg.Rd} {w : World} {c : Int} (h : Rg.lnE r = c) (k : Calls Tryz.prog 59 #[.pointer (some ⟨b, 0, none⟩)] w (LnP w b r)) :
    Calls Tryz.prog 59 #[.pointer (some ⟨b, 0, none⟩)] w fun e w' => e = .returned (.int .i64 c) ∧ Sav b w w' ∧ RdAt w' b (if c = 0 then Rg.lnR r else r) := by
  subst h; exact k
set_option maxRecDepth 100000 in
set_option maxHeartbeats 4000000 in
theorem reader_in (cb b l : Nat) (J : World → Prop) (Jx : Rg.Rd → Int → World → Prop) (hJ : ∀ W1 W2, J W1 → Sav b W1 W2 → J W2)
    (hJg : ∀ W1, J W1 → GoodS W1 ∧ W1.cell? ⟨cb, 0, none⟩ = some (.pointer (some ⟨b, 0, none⟩)))
    (hgo : ∀ r W1, RdAt W1 b r → J W1 → YieldAt Fence.wide 0 Tryz.prog l #[.int .i64 0] W1 (YdT J b r))
    (hst : ∀ r c W1, c ≠ 0 → RdAt W1 b r → J W1 → YieldAt Fence.wide 0 Tryz.prog l #[.int .i64 c] W1 (YdF Jx r c))
    (r0 : Rg.Rd) (W : World) (hR : RdAt W b r0) (hok : Rg.RdOk r0) (hj : J W) (hl : r0.rest.length ≤ 600000) :
    CallsIn Fence.wide 0 Tryz.prog 58 #[.func (.yield l) #[] #[], .pointer (some ⟨cb, 0, none⟩)] W (ItP J Jx b (Rg.runS r0)) := by
  obtain ⟨E, hE⟩ : ∃ E, Rg.runS r0 = E := ⟨_, rfl⟩
  rw [hE]
  have HE := Lib.hid hE
  have HR := Lib.hid hR
  have HOK := Lib.hid hok
  have HJ0 := Lib.hid hj
  have HJS := Lib.hid hJ
  have HJG := Lib.hid hJg
  have HGO := Lib.hid hgo
  have HST := Lib.hid hst
  clear hE hR hok hj hJ hJg hgo hst
  refine callsIn_of_wp Tryz.func58 rfl trivial ?_
  simp only [Tryz.ntmps58, List.size_toArray, List.length_cons, List.length_nil, Nat.reduceAdd, Nat.reduceSub, Array.replicate_succ, Array.replicate_zero, List.push_toArray, List.append_toArray, List.nil_append, List.cons_append]
  gi_wp2
  gi_loopw [3] (fun _ wr => ∃ r : Rg.Rd, Hid (RdAt wr b r) ∧ Hid (Rg.RdOk r) ∧ Hid (J wr) ∧ Hid (Rg.runS r = E) ∧ r.rest.length ≤ 600000) (fun _ wr => leftB b wr)
  case atStart => exact ⟨r0, HR.out, HOK.out, HJ0.out, HE.out, hl⟩
  case round =>
    obtain ⟨r, hr, hk, hjw, hrun, hlr⟩ := hrel
    obtain ⟨hG, hcb⟩ := HJG.out _ hjw.out
    have hms := leftB_at hr.out
    obtain ⟨v, hb0, hS⟩ := hr.out
    obtain ⟨d0, d1, d2, d3⟩ := cell4 hb0
    have HLN := Lib.hid (line_c b r wr hG hr.out hk.out (by omega))
    by_cases hne : r.rest = []
    · have hf := hrun.out
      rw [Rg.runS_end hne] at hf
      rw [hne] at d3
      have HF := Lib.hid hf
      clear HLN hrun hne hms hb0 hS hG
      gi_wp2
      go_end0
      rw [← HF.out]
      exact ⟨⟨_, rfl⟩, .inl ⟨rfl, hr.out, hjw.out⟩⟩
    · have hlr2 := hlr
      have y1 : (r.rest == []) = false := beq_eq_false_iff_ne.2 hne
      have y2 : (r.rest != []) = true := by rw [bne, y1]; rfl
      have y3 : r.rest.isEmpty = false := by cases q : r.rest with | nil => exact absurd q hne | cons _ _ => rfl
      by_cases h0 : Rg.lnE r = 0
      · have HL0 := Lib.hid (line_ok h0 HLN.out)
        rw [if_pos rfl] at HL0
        have HRUN := Lib.hid (show Rg.runS (Rg.lnR r) = E by rw [← Rg.runS_ok hne h0]; exact hrun.out)
        have HOK2 := Lib.hid (Rg.lnR_ok hk.out h0)
        have hlt := Rg.lnR_lt h0
        generalize r.rest = rest at *
        gi_wp2_with fail
        refine ⟨trivial, rfl, ?_⟩
        refine (callsIn_wide.2 HL0.out).mono ?_
        rintro e w2 ⟨rfl, hsav, hrd⟩
        have hj2 := HJS.out _ _ hjw.out hsav
        obtain ⟨fn, tmps, assign, body, hy, hRd⟩ := HGO.out _ _ hrd hj2
        have HRD := Lib.hid hRd
        clear hRd hsav hrd hj2 d0 d1 d2 d3 hcb y1 y2 y3 HL0 HLN hb0 hS hG hr hk hjw hrun
        gi_wp2_with fail
        refine ⟨rfl, ?_⟩
        refine HRD.out.mono ?_
        rintro e w3 ⟨rfl, hr3, hj3⟩
        have HMS := Lib.hid (show leftB b w3 < leftB b wr by rw [leftB_at hr3, hms]; exact hlt)
        have HR3 := Lib.hid hr3
        have HJ3 := Lib.hid hj3
        have hl3 : (Rg.lnR r).rest.length ≤ 600000 := by omega
        clear hr3 hj3 HRD hy hms hlt hlr
        gi_wp2
        go_roundw
        case rel => exact ⟨Rg.lnR r, HR3.out, HOK2.out, HJ3.out, HRUN.out, hl3⟩
        case measure => exact HMS.out
      · have HLC := Lib.hid (line_ok (c := Rg.lnE r) rfl HLN.out)
        rw [if_neg h0] at HLC
        have HF := Lib.hid (show (r, Rg.lnE r) = E by rw [← Rg.runS_bad hne h0]; exact hrun.out)
        generalize hcc : Rg.lnE r = c at *
        have y4 : (c != 0) = true := bne_iff_ne.2 h0
        have HC0 := Lib.hid h0
        generalize r.rest = rest at *
        clear hcc h0
        gi_wp2_with fail
        refine ⟨trivial, rfl, ?_⟩
        refine (callsIn_wide.2 HLC.out).mono ?_
        rintro e w2 ⟨rfl, hsav, hrd⟩
        have hj2 := HJS.out _ _ hjw.out hsav
        obtain ⟨fn, tmps, assign, body, hy, hRd⟩ := HST.out _ c _ HC0.out hrd hj2
        have HRD := Lib.hid hRd
        clear hRd hsav hrd hj2 d0 d1 d2 d3 hcb y1 y2 y3 HLC HLN hb0 hS hG hr hk hjw hrun hms
        gi_wp2_with fail
        refine ⟨rfl, ?_⟩
        refine HRD.out.mono ?_
        rintro e w3 ⟨rfl, hjx⟩
        have HJX := Lib.hid hjx
        clear hjx HRD hy
        gi_wp2
        refine bodyPost_ret (results_none rfl _ _ _) rfl ?_
        rw [← HF.out]
        exact ⟨⟨_, rfl⟩, .inr ⟨HC0.out, HJX.out⟩⟩
end Go.Proofs.Wk
