/- STRAIGHTNESS: the reference's Bad and Reject, walked. -/
import Derived.Test.YtjopphkhpmoedaaGreatDoorScJ
namespace Go.Proofs.Wk
open Go.RowKit Mt

/-- A slice of indices that a call has made. -/
def NewN (w : World) (x : List Nat) (e : Ending) (w' : World) : Prop := ∃ v, e = .returned v ∧ SlX w' v x ∧ Below w.heap.size w w'
set_option maxRecDepth 100000 in
set_option maxHeartbeats 4000000 in
theorem Bad_c {v : Value} (ls : List St.Pt) (t : Int) (w : World) (S : SlX w v ls) (hin : ∀ p ∈ ls, St.InP p) (h0 : 0 < ls.length) (hn : ls.length ≤ 10) (ht : 0 ≤ t ∧ t ≤ 100000) :
    Calls Tryz.prog 53 #[v, .int .i64 t] w (NewN w ((St.rej ls t).getD [])) := by
  have HLI := Lib.hid (fun k (hk : k ≤ 10) W => Lists_c ls.length hn k hk W)
  have HCH := Lib.hid (fun x (hx : ∀ i ∈ x, i < ls.length) (hl : x.length ≤ 10) W (h : Below w.heap.size w W) u (T : SlX W u x) => rChosen_c ls x W (S.later h) T hx (by omega) (by omega))
  have HKE := Lib.hid (fun x (hx : ∀ i ∈ x, i < ls.length) (h1 : 0 < x.length) (hl : x.length ≤ 10) W u (T : SlX W u (St.chosen ls x)) => rKeeps_c (St.chosen ls x) t W T (fun p hp => hin p (St.chosen_mem hx p hp)) (by rw [St.chosen_len]; exact h1) (by rw [St.chosen_len]; omega) ht)
  obtain ⟨E, hE⟩ : ∃ E, St.rej ls t = E := ⟨_, rfl⟩
  have HE := Lib.hid ((St.rejK_one ls t).trans hE)
  rw [hE]
  obtain ⟨sa, cap, rfl⟩ := S.len
  clear S hin hE
  go_enter Tryz.func53, Tryz.ntmps53
  go_wp2_with fail
  go_loopw [5] (fun sk wr => ∃ k : Nat, sk = .int .i64 (k : Int) ∧ 1 ≤ k ∧ k ≤ ls.length + 1 ∧ Hid (St.rejK ls t k = E) ∧ Hid (Below w.heap.size w wr)) (fun sk _ => ls.length + 1 - (intOf sk).toNat)
  case atStart => exact ⟨1, rfl, Nat.le_refl _, by omega, HE.out, Below.refl _ _⟩
  case round =>
    obtain ⟨k, rfl, hk1, hkn, hK, hB⟩ := hrel
    rename World => W0
    by_cases hle : k ≤ ls.length
    · have z1 : (k : Int) ≤ (ls.length : Int) := by omega
      have hst := hK.out
      rw [St.rejK_step hle] at hst
      have HST := Lib.hid hst
      have HLM := Lib.hid (fun i (hi : i < (St.lst ls.length k).length) => St.lst_mem (List.getElem_mem hi))
      clear hst
      go_wp2_with fail
      ((with_reducible refine (HLI.out k (by omega) _).mono ?_); rintro e w1 ⟨v1, hs, rfl, S1, D1, hb1⟩)
      have hB1 := hB.out.nx hb1
      obtain ⟨a1, c1, hv1⟩ := S1.lenH
      have hsl := D1.1
      rw [hsl] at hv1
      subst hv1
      have HS1 := Lib.hid S1
      have HD1 := Lib.hid (fun W (h : Below w1.heap.size w1 W) => D1.later h)
      have hLl := lst_len hn k
      have h10 : (10 : Nat) ^ k ≤ 10 ^ 10 := Nat.pow_le_pow_right (by decide) (by omega)
      have e10 : (10 : Nat) ^ 10 = 10000000000 := by decide
      generalize St.lst ls.length k = L at *
      have hll : L.length ≤ 10000000000 := by omega
      obtain ⟨F, hF⟩ : ∃ F, St.firstW ls t L = F := ⟨_, rfl⟩
      have HF := Lib.hid hF
      rw [hF] at HST
      clear S1 D1 hF hLl h10 e10 hb1
      go_wp2_with fail
      go_loopw [19] (fun si wr => ∃ i : Nat, si = .int .i64 (i : Int) ∧ i ≤ L.length ∧ Hid (St.firstW ls t (L.drop i) = F) ∧ Hid (Below w1.heap.size w1 wr)) (fun si _ => L.length - (intOf si).toNat)
      case atStart => exact ⟨0, rfl, Nat.zero_le _, HF.out, Below.refl _ _⟩
      case round =>
        obtain ⟨i, rfl, hi, hW, hBi⟩ := hrel
        by_cases hlt : i < L.length
        · obtain ⟨hxl, hxm⟩ := HLM.out i hlt
          have hi2 : i < hs.length := by omega
          have hsx := fun W (h : Below w1.heap.size w1 W) => (HD1.out W h).2 i _ _ (List.getElem?_eq_getElem hi2) (List.getElem?_eq_getElem hlt)
          have hw := hW.out
          rw [List.drop_eq_getElem_cons hlt] at hw
          have hc1 : (hs[i]).v = (hs[i]).v := rfl
          refine HS1.out.cases _ ?_ ?_
          · rintro a cc e1 e2
            rw [e2] at hi2; simp at hi2
          rintro b off cc e1 hp hR hb
          obtain ⟨ea, -, ec⟩ : a1 = some ⟨b, off, none⟩ ∧ L.length = hs.length ∧ c1 = cc := by simpa using e1
          subst ea
          have k0 := (hR.later hBi.out hb).slh hi2
          generalize L[i] = x at *
          generalize hs[i].v = hv at *
          have HSX := Lib.hid hsx
          have HCX := Lib.hid (HCH.out x hxm (by omega))
          have HKX := Lib.hid (HKE.out x hxm (by omega) (by omega))
          have HWK := Lib.hid (fun h => (St.firstW_keep (xs := L.drop (i + 1)) h).symm.trans hw)
          have HWF := Lib.hid (fun h => (St.firstW_found (xs := L.drop (i + 1)) h).symm.trans hw)
          clear hsx hw hc1 e1 hp hR hb ec hxm
          go_wp2_with fail
          ((with_reducible refine (HCX.out _ (hB1.nx hBi.out) _ (HSX.out _ hBi.out)).mono ?_); rintro e w2 ⟨v2, rfl, hS2, hb2⟩)
          have hB2 := hBi.out.nx hb2
          go_wp2_with fail
          ((with_reducible refine (HKX.out _ _ hS2).mono ?_); rintro e w3 ⟨rfl, hb3⟩)
          have HB3 := Lib.hid (hB2.nx hb3)
          clear hS2 hb2 hb3 hB2
          cases hq : St.keeps (St.chosen ls x) t with
          | true =>
            have HWN := Lib.hid (HWK.out hq)
            clear HWK HWF HKX hq
            go_wp2
            go_roundw
            case rel => exact ⟨i + 1, by go_num, by omega, HWN.out, HB3.out⟩
            case measure => simp [intOf]; omega
          | false =>
            obtain rfl := HWF.out hq
            have hE : some x = E := HST.out
            have hsf := HSX.out _ HB3.out
            clear HWK HWF HKX hq HST
            go_wp2
            go_ret
            refine ⟨hv, rfl, ?_, hB1.nx HB3.out⟩
            rw [← hE]
            exact hsf
        · obtain rfl : i = L.length := by omega
          have hw := hW.out
          rw [List.drop_length] at hw
          have HKN := Lib.hid (show St.rejK ls t (k + 1) = E by rw [← HST.out, ← hw]; rfl)
          have HB3 := Lib.hid (hB1.nx hBi.out)
          have hwk : IntKind.i64.wrap ((k : Int) + 1) = (k : Int) + 1 := Go.Proofs.Wk.wr rfl (by omega)
          clear hw hW HST
          go_wp2
          go_roundw
          case rel => exact ⟨k + 1, by go_num, by omega, by omega, HKN.out, HB3.out⟩
          case measure => simp [intOf]; omega
    · have z1 : ¬ (k : Int) ≤ (ls.length : Int) := by omega
      obtain rfl : none = E := (St.rejK_end (by omega)).symm.trans hK.out
      have hB1 := hB.out
      clear hK HE
      go_wp2
      go_ret
      exact ⟨_, rfl, .inl ⟨none, 0, rfl, rfl⟩, hB1⟩
end Go.Proofs.Wk
