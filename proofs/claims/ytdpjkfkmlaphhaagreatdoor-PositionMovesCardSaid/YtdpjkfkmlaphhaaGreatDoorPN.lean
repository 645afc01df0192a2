/- POSITION, IN THE LAW: right torsors. -/
import Derived.Test.YtdpjkfkmlaphhaaGreatDoorPL
namespace Go.Proofs.Wk
open Go.RowKit Mt Po

def badT (t : TT) : Bool := !ttS t || decide (ttE t ≠ 0)
theorem badT_ok {t : TT} (h : badT t = false) : ttS t = true ∧ ttE t = 0 := by
  unfold badT at h
  simpa using h
set_option maxRecDepth 100000 in
set_option maxHeartbeats 4000000 in
theorem right1_c (t : TT) (w : World) (hl : ∀ l ∈ t.l, l.length ≤ 140737488355328) : Calls Tryz.prog 36 #[ttV t] w (Ret w (.bool (badT t))) := by
  have HS := Lib.hid (fun W => rtorShort_c t W)
  have HC := Lib.hid (fun W => rtorCheck_c t W hl)
  have hJ := On.new w (ttC t).toList 38
  unfold badT
  generalize ttS t = SB at *
  generalize ttE t = E at *
  clear hl
  obtain ⟨B, hB⟩ : ∃ B, (!SB || decide (E ≠ 0)) = B := ⟨_, rfl⟩
  rw [hB]
  have HB := Lib.hid hB
  clear hB
  go_enter Tryz.func36, Tryz.ntmps36
  go_upto_region 1 with fail
  generalize hW0 : w.alloc (.cells (ttC t) 38) = W0 at *
  clear hW0
  obtain ⟨t0, t1, t2, t3, t4, t5⟩ := c6row hJ.a
  go_wp2_with fail
  ((with_reducible refine (HS.out _).mono ?_); rintro e w1 ⟨rfl, hb1⟩)
  have hJ1 := hJ.later hb1
  have hw1 := hJ1.w
  clear t0 t1 t2 t3 t4 t5 hb1 hJ HS
  cases SB with
  | false =>
    obtain rfl : true = B := HB.out
    clear hJ1 HC HB
    go_wp2
    go_ret
    exact ⟨rfl, hw1⟩
  | true =>
    obtain ⟨t0, t1, t2, t3, t4, t5⟩ := c6row hJ1.a
    go_wp2_with fail
    ((with_reducible refine (HC.out _).mono ?_); rintro e w2 ⟨rfl, hb2⟩)
    have hw2 := hw1.nx hb2
    clear t0 t1 t2 t3 t4 t5 hb2 hJ1 HC
    by_cases hE : E = 0
    · subst hE
      obtain rfl : false = B := HB.out
      clear HB
      go_wp2
      go_ret
      exact ⟨rfl, hw2⟩
    · have h3 := bne_ne hE
      obtain rfl : true = B := by rw [← HB.out]; simp [hE]
      clear HB hE
      go_wp2
      go_ret
      exact ⟨rfl, hw2⟩
end Go.Proofs.Wk
/- POSITION, IN THE LAW: right cases with right torsors. -/
namespace Go.Proofs.Wk
open Go.RowKit Mt Po

def tA (ls : List TT) (i : Nat) : TT := ls.getD i ⟨[], [], [], [], [], []⟩
theorem tA_get {ls : List TT} {i : Nat} (hi : i < ls.length) : tA ls i = ls[i] := by unfold tA; rw [List.getD_eq_getElem?_getD, List.getElem?_eq_getElem hi]; rfl
theorem RX.tt {w : World} {b off : Nat} {ls : List TT} (h : RX w b off ls) {i : Nat} (hi : i < ls.length) :
    w.cell? ⟨b, off + i * 6, none⟩ = some (.string ⟨(tA ls i).a0.toArray⟩) ∧ w.cell? ⟨b, off + i * 6 + 1, none⟩ = some (.string ⟨(tA ls i).a1.toArray⟩) ∧ w.cell? ⟨b, off + i * 6 + 2, none⟩ = some (.string ⟨(tA ls i).a2.toArray⟩) ∧
      w.cell? ⟨b, off + i * 6 + 3, none⟩ = some (.string ⟨(tA ls i).b0.toArray⟩) ∧ w.cell? ⟨b, off + i * 6 + 4, none⟩ = some (.string ⟨(tA ls i).b1.toArray⟩) ∧ w.cell? ⟨b, off + i * 6 + 5, none⟩ = some (.string ⟨(tA ls i).b2.toArray⟩) := by
  rw [tA_get hi]
  exact ⟨h i hi 0 (by decide), h i hi 1 (by decide), h i hi 2 (by decide), h i hi 3 (by decide), h i hi 4 (by decide), h i hi 5 (by decide)⟩
set_option maxRecDepth 100000 in
set_option maxHeartbeats 4000000 in
theorem ixT_c {v : Value} (ls : List TT) (w : World) (S : SlX w v ls) (hn : ls.length ≤ 140737488355328) (hl : ∀ t ∈ ls, ∀ l ∈ t.l, l.length ≤ 140737488355328) :
    Calls Tryz.prog 82 #[v, .func (.func 36) #[] #[]] w (fun e w' => ∃ r : Int, e = .returned (.int .i64 r) ∧ (r < 0 → ∀ t ∈ ls, badT t = false) ∧ Below w.heap.size w w') := by
  have HE := Lib.hid (fun (h : ∀ i, i < ls.length → badT (tA ls i) = false) => show ∀ t ∈ ls, badT t = false from fun t ht => by
    obtain ⟨i, hi, rfl⟩ := List.getElem_of_mem ht
    have := h i hi
    rwa [tA_get hi] at this)
  have HC := Lib.hid (fun i (hi : i < ls.length) W => right1_c (tA ls i) W (by rw [tA_get hi]; exact hl _ (List.getElem_mem hi)))
  have HF : ∃ sa cap, v = .slice sa ls.length cap ∧ ∀ i, i < ls.length → ∃ b off, sa = some ⟨b, off, none⟩ ∧ ∀ W, Below w.heap.size w W → (W.cell? ⟨b, off + i * 6, none⟩ = some (.string ⟨(tA ls i).a0.toArray⟩) ∧ W.cell? ⟨b, off + i * 6 + 1, none⟩ = some (.string ⟨(tA ls i).a1.toArray⟩) ∧ W.cell? ⟨b, off + i * 6 + 2, none⟩ = some (.string ⟨(tA ls i).a2.toArray⟩) ∧
      W.cell? ⟨b, off + i * 6 + 3, none⟩ = some (.string ⟨(tA ls i).b0.toArray⟩) ∧ W.cell? ⟨b, off + i * 6 + 4, none⟩ = some (.string ⟨(tA ls i).b1.toArray⟩) ∧ W.cell? ⟨b, off + i * 6 + 5, none⟩ = some (.string ⟨(tA ls i).b2.toArray⟩)) := by
    rcases S with ⟨a, c, rfl, rfl⟩ | ⟨b, off, c, rfl, hR, hb⟩
    · exact ⟨a, c, rfl, fun i h => absurd h (Nat.not_lt_zero _)⟩
    · exact ⟨_, c, rfl, fun i hi => ⟨b, off, rfl, fun W h => (hR.later h hb).tt hi⟩⟩
  obtain ⟨sa, cap, rfl, h1⟩ := HF
  have H1 := Lib.hid h1
  clear h1 S hl
  generalize tA ls = tF at *
  obtain ⟨PA, hPA⟩ : ∃ P : Prop, (∀ t ∈ ls, badT t = false) = P := ⟨_, rfl⟩
  rw [hPA] at HE ⊢
  clear hPA
  generalize ls.length = n at *
  go_enter Tryz.func82, Tryz.ntmps82
  go_wp2_with fail
  go_loopw [8] (fun si wr => ∃ i : Nat, si = .int .i64 (i : Int) ∧ i ≤ n ∧ Hid (∀ k, k < i → badT (tF k) = false) ∧ Hid (Below w.heap.size w wr)) (fun si _ => n - (intOf si).toNat)
  case atStart => exact ⟨0, rfl, Nat.zero_le _, fun k hk => absurd hk (Nat.not_lt_zero _), Below.refl _ _⟩
  case round =>
    obtain ⟨i, rfl, hi, hK, hB⟩ := hrel
    by_cases hlt : i < n
    · obtain ⟨b, off, rfl, f1⟩ := H1.out i hlt
      obtain ⟨k0, k1, k2, k3, k4, k5⟩ := f1 _ hB.out
      have HC1 := Lib.hid (HC.out i hlt)
      have HKN := Lib.hid (fun (e : badT (tF i) = false) (k : Nat) (hk : k < i + 1) => show badT (tF k) = false from by
        by_cases q : k = i
        · subst q; exact e
        · exact hK.out k (by omega))
      clear f1 H1 HC hK
      generalize badT (tF i) = BT at *
      generalize tF i = t at *
      have j0 : (i : Int) < (n : Int) := by omega
      have j1 : (0 : Int) ≤ (i : Int) := by omega
      go_wp2_with fail
      ((with_reducible refine (HC1.out _).mono ?_); rintro e w2 ⟨rfl, hb2⟩)
      have hw := hB.out.nx hb2
      clear k0 k1 k2 k3 k4 k5 HC1 hb2 hB
      cases BT with
      | true =>
        clear HKN HE
        go_wp2
        go_ret
        exact ⟨_, rfl, fun h => absurd h (by omega), hw⟩
      | false =>
        have HK2 := Lib.hid (HKN.out rfl)
        clear HKN HE
        go_wp2
        go_roundw
        case rel => exact ⟨i + 1, by go_num, by omega, HK2.out, hw⟩
        case measure => simp [intOf]; omega
    · obtain rfl : i = n := by omega
      have hP := HE.out hK.out
      have hw := hB.out
      clear H1 HC hK HE hB
      go_wp2
      go_ret
      exact ⟨_, rfl, fun _ => hP, hw⟩
end Go.Proofs.Wk
