/- LINEAR PROGRAMS: the goal is set. -/
import Derived.Test.YtcdjhgkeehhaaaaGreatDoorUD
namespace Lp
/-- The goal whose first k numbers are laid, with their negatives. -/
def aimR (g : List Rat) : Nat → List Rat
  | 0 => List.replicate 16 0
  | k + 1 => ((aimR g k).set k (at_ g k)).set (4 + k) (-(at_ g k))
theorem aimR_len (g : List Rat) : ∀ k, (aimR g k).length = 16
  | 0 => by simp [aimR]
  | k + 1 => by simp [aimR, aimR_len g k]
/-- The goal less the first i rows. -/
def aimT (t : Tab) (g : List Rat) : Nat → List Rat
  | 0 => g
  | i + 1 => dropR (t.row i) (at_ (aimT t g i) (t.bas i)) (aimT t g i)
def aimed (t : Tab) (g : List Rat) : Tab := { t with goal := aimT t (aimR g 4) 6 }
theorem aimed_row (t : Tab) (g : List Rat) (i : Nat) : (aimed t g).row i = t.row i := by unfold Tab.row aimed; rfl
theorem aimed_bas (t : Tab) (g : List Rat) (i : Nat) : (aimed t g).bas i = t.bas i := by unfold Tab.bas aimed; rfl
theorem aimed_goal (t : Tab) (g : List Rat) : (aimed t g).goal = aimT t (aimR g 4) 6 := by simp only [aimed]
end Lp
namespace Go.Proofs.Wk
open Go.RowKit Mt

/-- Four numbers in memory. -/
def Num4 (W : World) (b : Nat) (g : List Rat) : Prop := ∀ k, k < 4 → W.cell? ⟨b, k, none⟩ = some ((Value.string ⟨(rtoa (Lp.at_ g k)).toArray⟩))
theorem Num4.later {W W' : World} {b : Nat} {g : List Rat} (h : Num4 W b g) (hb : Below W.heap.size W W') : Num4 W' b g := fun k hk => cellB (h k hk) hb
theorem aim_new {w0 W : World} {ad : Nat → Nat} {cr cb : Nat} {X : Nat → List Rat} {b : Nat → Nat} (h : TB w0 ad cr cb W X b) {g : Nat} {l : List Rat} {W0 : World} (hT : TB w0 ad cr cb W0 X b) (hg : W.heap[g]? = some (.cells (rtC l) 27 (0, 0))) (hl : l.length = 16) (hlo : W0.heap.size ≤ g) :
    TB w0 (fun i => if i = 6 then g else ad i) cr cb (W.setCell ⟨ad 10, 5, none⟩ (.slice (some ⟨g, 0, none⟩) 16 16)) (upd X 6 l) b := by
  obtain ⟨cs, k1, k2⟩ := h.bas
  obtain ⟨ds, k3, k4⟩ := h.rws
  have hne : ∀ i, i < 11 → g ≠ ad i := hT.new hlo
  have ot : ∀ i, i < 11 → i ≠ 10 → (W.setCell ⟨ad 10, 5, none⟩ (.slice (some ⟨g, 0, none⟩) 16 16)).heap[ad i]? = W.heap[ad i]? := fun i hi hn => heap_setCell_other W ⟨ad 10, 5, none⟩ (ad i) _ (h.ne hi (by omega) hn)
  have og : (W.setCell ⟨ad 10, 5, none⟩ (.slice (some ⟨g, 0, none⟩) 16 16)).heap[g]? = W.heap[g]? := heap_setCell_other W ⟨ad 10, 5, none⟩ g _ (hne 10 (by omega))
  refine ⟨Below.setc h.bel (h.low 10 (by omega)) _ _, fun i hi => ?_, fun i j hi hj e => ?_, fun i hi => ?_, ⟨cs, (ot 7 (by omega) (by omega)).trans k1, k2⟩, ⟨ds, (ot 8 (by omega) (by omega)).trans k3, fun i hi => ?_⟩, (ot 9 (by omega) (by omega)).trans h.sum, ?_⟩
  · by_cases c : i = 6
    · rw [if_pos c]; exact Nat.le_trans hT.bel.size hlo
    · rw [if_neg c]; exact h.low i hi
  · by_cases c : i = 6
    · by_cases d : j = 6
      · omega
      · simp only [if_pos c, if_neg d] at e
        exact absurd e (hne j hj)
    · by_cases d : j = 6
      · simp only [if_neg c, if_pos d] at e
        exact absurd e.symm (hne i hi)
      · simp only [if_neg c, if_neg d] at e
        exact h.inj i j hi hj e
  · by_cases c : i = 6
    · rw [if_pos c, c, upd_same]; exact ⟨og.trans hg, hl⟩
    · rw [if_neg c, upd_other _ _ c]; exact ⟨(ot i (by omega) (by omega)).trans (h.row i hi).1, (h.row i hi).2⟩
  · rw [if_neg (show i ≠ 6 by omega)]; exact k4 i hi
  · simp only [if_neg (show (10 : Nat) ≠ 6 by omega)]
    rw [heap_setCell_same W (ad 10) 5 _ _ _ h.tab]
    rfl
theorem TB.lay {w0 W : World} {ad : Nat → Nat} {cr cb : Nat} {X : Nat → List Rat} {b : Nat → Nat} {g : List Rat} {k : Nat} (h : TB w0 ad cr cb W (upd X 6 (Lp.aimR g k)) b) :
    TB w0 ad cr cb (W.setCell ⟨ad 6, k, none⟩ ((Value.string ⟨(rtoa (Lp.at_ g k)).toArray⟩))) (upd X 6 ((Lp.aimR g k).set k (Lp.at_ g k))) b ∧ TB w0 ad cr cb ((W.setCell ⟨ad 6, k, none⟩ ((Value.string ⟨(rtoa (Lp.at_ g k)).toArray⟩))).setCell ⟨ad 6, 4 + k, none⟩ ((Value.string ⟨(rtoa (-(Lp.at_ g k))).toArray⟩))) (upd X 6 (Lp.aimR g (k + 1))) b := by
  have h1 := h.set (show 6 < 7 by omega) k (Lp.at_ g k)
  have h2 := h1.set (show 6 < 7 by omega) (4 + k) (-(Lp.at_ g k))
  refine ⟨h1.congr (fun i _ => ?_) (fun _ _ => rfl), h2.congr (fun i _ => ?_) (fun _ _ => rfl)⟩
  · by_cases e : i = 6
    · rw [if_pos e, upd_same, e, upd_same]
    · rw [if_neg e, upd_other _ _ e, upd_other _ _ e]
  · by_cases e : i = 6
    · rw [if_pos e, if_pos rfl, upd_same, e, upd_same]; rfl
    · rw [if_neg e, if_neg e, upd_other _ _ e, upd_other _ _ e]
theorem TB.dgoal {w0 W : World} {ad : Nat → Nat} {cr cb : Nat} {X : Nat → List Rat} {b : Nat → Nat} {G ys : List Rat} {x : Rat} {k : Nat} (h : TB w0 ad cr cb W (upd X 6 (Lp.dropS ys x G k)) b) :
    TB w0 ad cr cb (W.setCell ⟨ad 6, k, none⟩ ((Value.string ⟨(rtoa (Lp.at_ G k - x * Lp.at_ ys k)).toArray⟩))) (upd X 6 (Lp.dropS ys x G (k + 1))) b := by
  refine (h.set (show 6 < 7 by omega) k _).congr (fun i _ => ?_) (fun _ _ => rfl)
  by_cases e : i = 6
  · rw [if_pos e, upd_same, e, upd_same]; exact Lp.dropS_step
  · rw [if_neg e, upd_other _ _ e, upd_other _ _ e]
def AmP (w0 : World) (ad : Nat → Nat) (cr cb : Nat) (t : Lp.Tab) (e : Ending) (W' : World) : Prop := e = .returned (.tuple #[]) ∧ ∃ ad', ad' 10 = ad 10 ∧ TB w0 ad' cr cb W' (tX t) t.bas
set_option maxRecDepth 100000 in
set_option linter.unusedSimpArgs false in
set_option maxHeartbeats 4000000 in
theorem aim_c {w0 W : World} (hg : Good w0) {ad : Nat → Nat} {cr cb : Nat} {t : Lp.Tab} (ht : Lp.SmT t) (h : TB w0 ad cr cb W (tX t) t.bas) {gb : Nat} {gl : List Rat} (hN : Num4 w0 gb gl) (hgl : ∀ k, k < 4 → Lp.sm (Lp.at_ gl k) = true) (hsm : ∀ i, i ≤ 6 → Lp.smL (Lp.aimT t (Lp.aimR gl 4) i) = true) :
    Calls Tryz.prog 72 #[.pointer (some ⟨ad 10, 0, none⟩), .slice (some ⟨gb, 0, none⟩) 4 4] W (AmP w0 ad cr cb (Lp.aimed t gl)) := by
  have HN := Lib.hid (fun W' (k : Below w0.heap.size w0 W') => hN.later k)
  have HGL := Lib.hid hgl
  have HSM := Lib.hid hsm
  have HT := Lib.hid ht
  obtain ⟨tA, htA⟩ : ∃ z, Lp.aimed t gl = z := ⟨_, rfl⟩
  rw [htA]
  have HA := Lib.hid htA
  clear htA
  have q0 : (W.alloc (.cells #[.string ⟨#[48]⟩] 27)).drew.cell? ⟨W.heap.size, 0, none⟩ = some ((Value.string ⟨(rtoa 0).toArray⟩)) := by rw [rtoa_zero]; exact one_cell (heap_alloc_new W (.cells #[.string ⟨#[48]⟩] 27))
  have hA := lal W (.cells #[.string ⟨#[48]⟩] 27)
  have HWD := Lib.hid (pwidth_c (h.later hA))
  clear hN hgl hsm ht
  go_enter Tryz.func72, Tryz.ntmps72
  go_wp2_with fail
  ((with_reducible refine HWD.out.mono ?_); rintro en w2 ⟨rfl, rfl⟩)
  go_wp2_with fail
  ((with_reducible refine (rep16_c _ q0).mono ?_); rintro en w3 ⟨g, rfl, hgl, hgr, hb3⟩)
  have hb4 : Below W.heap.size W w3 := hA.drew.nxt hb3
  have hgo : W.heap.size ≤ g := Nat.le_trans (show W.heap.size ≤ _ by simp [World.drew]) hgl
  obtain ⟨-, -, -, -, -, t5⟩ := (h.later hb4).tcell
  have f5 := frozen_of_row _ _ 5 _ _ (h.later hb4).tab
  have hN1 := aim_new (h.later hb4) h hgr (by simp) hgo
  clear HWD q0 hA hgl hgr hb3
  go_upto_region 1 with fail
  generalize w3.setCell ⟨ad 10, 5, none⟩ (.slice (some ⟨g, 0, none⟩) 16 16) = w4 at *
  obtain ⟨a2, h10, hT0⟩ : ∃ a2 : Nat → Nat, ad 10 = a2 10 ∧ TB w0 a2 cr cb w4 (upd (tX t) 6 (List.replicate 16 0)) t.bas := ⟨fun i => if i = 6 then g else ad i, rfl, hN1⟩
  have HT0 := Lib.hid hT0
  have H10 := Lib.hid h10
  rw [h10]
  clear hN1 hb4 hgo t5 f5 h hT0 h10
  go_wp2_with fail
  go_loopw [20] (fun si wr => ∃ k : Nat, si = .int .i64 (k : Int) ∧ k ≤ 4 ∧ Hid (TB w0 a2 cr cb wr (upd (tX t) 6 (Lp.aimR gl k)) t.bas)) (fun si _ => 4 - (intOf si).toNat)
  case atStart => exact ⟨0, rfl, Nat.zero_le _, HT0.out⟩
  case round =>
    obtain ⟨k, rfl, hk, hT⟩ := hrel
    clear HT0
    by_cases hlt : k < 4
    · have mk := HN.out _ hT.out.bel k hlt
      have hs := HGL.out k hlt
      have i6 : (0 : Int) ≤ (k : Int) := by omega
      have i7 : (k : Int) < 4 := by omega
      have i8 : (0 : Int) ≤ 4 + (k : Int) := by omega
      have i9 : 4 + (k : Int) < 16 := by omega
      have i10 : (4 + (k : Int)).toNat = 4 + k := by omega
      have i11 : (k : Int) < 16 := by omega
      have HNG := Lib.hid (fun W' (h : Below wr.heap.size wr W') => lneg_c (sm_sz hs) (by omega) W' ((hT.out.later h).good hg))
      have HOF := Lib.hid (fun (a : Txt) W' (h : Below wr.heap.size wr W') => pof_c a (a2 9) W' (hT.out.later h).sum)
      have HALL := Lib.hid (fun (W' : World) (X' : Nat → List Rat) (T : TB w0 a2 cr cb W' X' t.bas) => by
        obtain ⟨t0, t1, -, -, -, t5⟩ := T.tcell
        exact (⟨t0, t1, t5⟩ : W'.cell? ⟨a2 10, 0, none⟩ = some (.pointer (some ⟨a2 9, 0, none⟩)) ∧ W'.cell? ⟨a2 10, 1, none⟩ = some (.int .i64 4) ∧ W'.cell? ⟨a2 10, 5, none⟩ = some (.slice (some ⟨a2 6, 0, none⟩) 16 16)))
      have HLY := Lib.hid (fun W' (T : TB w0 a2 cr cb W' (upd (tX t) 6 (Lp.aimR gl k)) t.bas) => T.lay)
      have HTL := Lib.hid (fun W' (h : Below wr.heap.size wr W') => hT.out.later h)
      have hB := Below.refl wr.heap.size wr
      have HXL := Lib.hid (show (Lp.at_ gl k) = Lp.at_ gl k from rfl)
      clear HN HGL HXL
      generalize Lp.at_ gl k = x at *
      go_wp2_with fail
      refine Go.Front.wp_region_front (S := fun V => V.cell? ⟨a2 10, 0, none⟩ = some (.pointer (some ⟨a2 9, 0, none⟩)) ∧ V.cell? ⟨a2 10, 1, none⟩ = some (.int .i64 4) ∧ V.cell? ⟨a2 10, 5, none⟩ = some (.slice (some ⟨a2 6, 0, none⟩) 16 16)) 27 (by kernel_rfl) (by simp) (by kernel_rfl) (by kernel_rfl) (by kernel_rfl) (by kernel_rfl) ?_ (fun hHeld => ?_)
      · (first | with_reducible exact HALL.out _ _ (HLY.out _ (HTL.out _ B3)).1 | with_reducible exact HALL.out _ _ (HTL.out _ B3) | with_reducible exact HALL.out _ _ (HTL.out _ B2) | with_reducible exact HALL.out _ _ (HTL.out _ hB.drew))
      simp only [List.take_succ_cons, List.take_zero, List.drop_succ_cons, List.drop_zero]
      refine wpAnyH_take (i := 0) (v := ?_) rfl (by kernel_rfl) (by kernel_rfl) (by kernel_rfl) (fun _ _ _ h => h) (Or.inl ⟨by rfl, ?_⟩) hHeld ?_
      rotate_left
      · intro W hSw; (try dsimp only at hSw); go_simp <;> with_reducible rfl
      (try simp only [Act.put, List.setIfInBounds_toArray, List.set_cons_zero, List.set_cons_succ])
      refine wpAnyH_take (i := 1) (v := ?_) rfl (by kernel_rfl) (by kernel_rfl) (by kernel_rfl) (fun _ _ _ h => h) (Or.inl ⟨by rfl, ?_⟩) hHeld ?_
      rotate_left
      · intro W hSw; (try dsimp only at hSw); go_simp <;> with_reducible rfl
      (try simp only [Act.put, List.setIfInBounds_toArray, List.set_cons_zero, List.set_cons_succ])
      refine wpAnyH_take (i := 2) (v := ?_) rfl (by kernel_rfl) (by kernel_rfl) (by kernel_rfl) (fun _ _ _ h => h) (Or.inl ⟨by rfl, ?_⟩) hHeld ?_
      rotate_left
      · intro W hSw; (try dsimp only at hSw); go_simp <;> with_reducible rfl
      (try simp only [Act.put, List.setIfInBounds_toArray, List.set_cons_zero, List.set_cons_succ])
      refine wpAnyH_take (i := 3) (v := ?_) rfl (by kernel_rfl) (by kernel_rfl) (by kernel_rfl) (fun _ _ _ h => h) (Or.inl ⟨by rfl, ?_⟩) hHeld ?_
      rotate_left
      · intro W hSw; (try dsimp only at hSw); go_simp <;> with_reducible rfl
      (try simp only [Act.put, List.setIfInBounds_toArray, List.set_cons_zero, List.set_cons_succ])
      refine wpAnyH_take (i := 4) (v := ?_) rfl (by kernel_rfl) (by kernel_rfl) (by kernel_rfl) (fun _ _ _ h => h) (Or.inl ⟨by rfl, ?_⟩) hHeld ?_
      rotate_left
      · intro W hSw; (try dsimp only at hSw); go_simp <;> with_reducible rfl
      (try simp only [Act.put, List.setIfInBounds_toArray, List.set_cons_zero, List.set_cons_succ])
      refine wpAnyH_take (i := 5) (v := ?_) rfl (by kernel_rfl) (by kernel_rfl) (by kernel_rfl) (fun _ _ _ h => h) (Or.inl ⟨by rfl, ?_⟩) hHeld ?_
      rotate_left
      · intro W hSw; (try dsimp only at hSw); go_simp <;> with_reducible rfl
      (try simp only [Act.put, List.setIfInBounds_toArray, List.set_cons_zero, List.set_cons_succ])
      refine wpAnyH_take (i := 6) (v := ?_) rfl (by kernel_rfl) (by kernel_rfl) (by kernel_rfl) (fun _ _ _ h => h) (Or.inl ⟨by rfl, ?_⟩) hHeld ?_
      rotate_left
      · intro W hSw; (try dsimp only at hSw); go_simp <;> with_reducible rfl
      (try simp only [Act.put, List.setIfInBounds_toArray, List.set_cons_zero, List.set_cons_succ])
      refine wpAnyH_take (i := 7) (v := ?_) rfl (by kernel_rfl) (by kernel_rfl) (by kernel_rfl) (fun _ _ _ h => h) (Or.inl ⟨by rfl, ?_⟩) hHeld ?_
      rotate_left
      · intro W hSw; (try dsimp only at hSw); go_simp <;> with_reducible rfl
      (try simp only [Act.put, List.setIfInBounds_toArray, List.set_cons_zero, List.set_cons_succ])
      refine wpAnyH_take (i := 8) (v := ?_) rfl (by kernel_rfl) (by kernel_rfl) (by kernel_rfl) (fun _ _ _ h => h) (Or.inl ⟨by rfl, ?_⟩) hHeld ?_
      rotate_left
      · intro W hSw; (try dsimp only at hSw); go_simp <;> with_reducible rfl
      (try simp only [Act.put, List.setIfInBounds_toArray, List.set_cons_zero, List.set_cons_succ])
      refine wpAnyH_take (i := 9) (v := ?_) rfl (by kernel_rfl) (by kernel_rfl) (by kernel_rfl) (fun _ _ _ h => h) (Or.inl ⟨by rfl, ?_⟩) hHeld ?_
      rotate_left
      · intro W hSw; (try dsimp only at hSw); go_simp <;> with_reducible rfl
      (try simp only [Act.put, List.setIfInBounds_toArray, List.set_cons_zero, List.set_cons_succ])
      refine wpAnyH_take (i := 10) (v := ?_) rfl (by kernel_rfl) (by kernel_rfl) (by kernel_rfl) (fun _ _ _ h => h) (Or.inl ⟨by rfl, ?_⟩) hHeld ?_
      rotate_left
      · intro W hSw; (try dsimp only at hSw); go_simp <;> with_reducible rfl
      (try simp only [Act.put, List.setIfInBounds_toArray, List.set_cons_zero, List.set_cons_succ])
      refine wpAnyH_take (i := 11) (v := ?_) rfl (by kernel_rfl) (by kernel_rfl) (by kernel_rfl) (fun _ _ _ h => h) (Or.inl ⟨by rfl, ?_⟩) hHeld ?_
      rotate_left
      · intro W hSw; (try dsimp only at hSw); go_simp <;> with_reducible rfl
      (try simp only [Act.put, List.setIfInBounds_toArray, List.set_cons_zero, List.set_cons_succ])
      refine wpAnyH_take (i := 12) (v := ?_) rfl (by kernel_rfl) (by kernel_rfl) (by kernel_rfl) (fun _ _ _ h => h) (Or.inl ⟨by rfl, ?_⟩) hHeld ?_
      rotate_left
      · intro W hSw; (try dsimp only at hSw); go_simp <;> with_reducible rfl
      (try simp only [Act.put, List.setIfInBounds_toArray, List.set_cons_zero, List.set_cons_succ])
      refine wpAnyH_take (i := 13) (v := ?_) rfl (by kernel_rfl) (by kernel_rfl) (by kernel_rfl) (fun _ _ _ h => h) (Or.inl ⟨by rfl, ?_⟩) hHeld ?_
      rotate_left
      · intro W hSw; (try dsimp only at hSw); go_simp <;> with_reducible rfl
      (try simp only [Act.put, List.setIfInBounds_toArray, List.set_cons_zero, List.set_cons_succ])
      refine wpAnyH_take (i := 14) (v := ?_) rfl (by kernel_rfl) (by kernel_rfl) (by kernel_rfl) (fun _ _ _ h => h) (Or.inl ⟨by rfl, ?_⟩) hHeld ?_
      rotate_left
      · intro W hSw; (try dsimp only at hSw); go_simp <;> with_reducible rfl
      (try simp only [Act.put, List.setIfInBounds_toArray, List.set_cons_zero, List.set_cons_succ])
      refine wpAnyH_take (i := 15) (v := ?_) rfl (by kernel_rfl) (by kernel_rfl) (by kernel_rfl) (fun _ _ _ h => h) (Or.inl ⟨by rfl, ?_⟩) hHeld ?_
      rotate_left
      · intro W hSw; (try dsimp only at hSw); go_simp <;> with_reducible rfl
      (try simp only [Act.put, List.setIfInBounds_toArray, List.set_cons_zero, List.set_cons_succ])
      refine wpAnyH_take (i := 16) (v := ?_) rfl (by kernel_rfl) (by kernel_rfl) (by kernel_rfl) (fun _ _ _ h => h) (Or.inl ⟨by rfl, ?_⟩) hHeld ?_
      rotate_left
      · intro W hSw; (try dsimp only at hSw); go_simp <;> with_reducible rfl
      (try simp only [Act.put, List.setIfInBounds_toArray, List.set_cons_zero, List.set_cons_succ])
      refine wpAnyH_take (i := 17) (v := ?_) rfl (by kernel_rfl) (by kernel_rfl) (by kernel_rfl) (fun _ _ _ h => h) (Or.inl ⟨by rfl, ?_⟩) hHeld ?_
      rotate_left
      · intro W hSw; (try dsimp only at hSw); go_simp <;> with_reducible rfl
      (try simp only [Act.put, List.setIfInBounds_toArray, List.set_cons_zero, List.set_cons_succ])
      refine wpAnyH_take (i := 18) (v := ?_) rfl (by kernel_rfl) (by kernel_rfl) (by kernel_rfl) (fun _ _ _ h => h) (Or.inl ⟨by rfl, ?_⟩) hHeld ?_
      rotate_left
      · intro W hSw; (try dsimp only at hSw); go_simp <;> with_reducible rfl
      (try simp only [Act.put, List.setIfInBounds_toArray, List.set_cons_zero, List.set_cons_succ])
      refine wpAnyH_take (i := 19) (v := ?_) rfl (by kernel_rfl) (by kernel_rfl) (by kernel_rfl) (fun _ _ _ h => h) (Or.inl ⟨by rfl, ?_⟩) hHeld ?_
      rotate_left
      · intro W hSw; (try dsimp only at hSw); go_simp <;> with_reducible rfl
      (try simp only [Act.put, List.setIfInBounds_toArray, List.set_cons_zero, List.set_cons_succ])
      refine wpAnyH_take (i := 20) (v := ?_) rfl (by kernel_rfl) (by kernel_rfl) (by kernel_rfl) (fun _ _ _ h => h) (Or.inl ⟨by rfl, ?_⟩) hHeld ?_
      rotate_left
      · intro W hSw; (try dsimp only at hSw); go_simp <;> with_reducible rfl
      (try simp only [Act.put, List.setIfInBounds_toArray, List.set_cons_zero, List.set_cons_succ])
      refine wpAnyH_ready (rs := [21]) (by kernel_rfl) (by simp) ?_
      refine AllReadyH.cons rfl (fun K hK => ?_) AllReadyH.nil
      go_simp
      ((with_reducible refine (HNG.out _ hB.drew).mono ?_); rintro en w5 ⟨rfl, hb5⟩; have B2 := hB.drew.nxt hb5; go_simp)
      refine hK.out _ _ ?_ (fun hHeld => ?_)
      · ((try dsimp only); first | with_reducible exact HALL.out _ _ (HLY.out _ (HTL.out _ B3)).1 | with_reducible exact HALL.out _ _ (HTL.out _ B3) | with_reducible exact HALL.out _ _ (HTL.out _ B2) | with_reducible exact HALL.out _ _ (HTL.out _ hB.drew))
      clear hK K
      (try simp only [Act.put, List.setIfInBounds_toArray, List.set_cons_zero, List.set_cons_succ])
      refine wpAnyH_take (i := 22) (v := ?_) rfl (by kernel_rfl) (by kernel_rfl) (by kernel_rfl) (fun _ _ _ h => h) (Or.inl ⟨by rfl, ?_⟩) hHeld ?_
      rotate_left
      · intro W hSw; (try dsimp only at hSw); go_simp <;> with_reducible rfl
      (try simp only [Act.put, List.setIfInBounds_toArray, List.set_cons_zero, List.set_cons_succ])
      refine wpAnyH_take (i := 23) (v := ?_) rfl (by kernel_rfl) (by kernel_rfl) (by kernel_rfl) (fun _ _ _ h => h) (Or.inl ⟨by rfl, ?_⟩) hHeld ?_
      rotate_left
      · intro W hSw; (try dsimp only at hSw); go_simp <;> with_reducible rfl
      (try simp only [Act.put, List.setIfInBounds_toArray, List.set_cons_zero, List.set_cons_succ])
      refine wpAnyH_ready (rs := [24]) (by kernel_rfl) (by simp) ?_
      refine AllReadyH.cons rfl (fun K hK => ?_) AllReadyH.nil
      go_simp
      ((with_reducible refine (HOF.out _ _ B2).mono ?_); rintro en w6 ⟨rfl, hb6⟩; have B3 := B2.nxt hb6)
      refine hK.out _ _ ?_ (fun hHeld => ?_)
      · ((try dsimp only); first | with_reducible exact HALL.out _ _ (HLY.out _ (HTL.out _ B3)).1 | with_reducible exact HALL.out _ _ (HTL.out _ B3) | with_reducible exact HALL.out _ _ (HTL.out _ B2) | with_reducible exact HALL.out _ _ (HTL.out _ hB.drew))
      clear hK K
      (try simp only [Act.put, List.setIfInBounds_toArray, List.set_cons_zero, List.set_cons_succ])
      refine wpAnyH_take (i := 25) (v := ?_) rfl (by kernel_rfl) (by kernel_rfl) (by kernel_rfl) (fun _ _ _ h => h) (Or.inl ⟨by rfl, ?_⟩) hHeld ?_
      rotate_left
      · intro W hSw; (try dsimp only at hSw); go_simp <;> with_reducible rfl
      (try simp only [Act.put, List.setIfInBounds_toArray, List.set_cons_zero, List.set_cons_succ])
      refine wpAnyH_ready (rs := [26]) (by kernel_rfl) (by simp) ?_
      refine AllReadyH.cons rfl (fun K hK => ?_) AllReadyH.nil
      (have T6 := HTL.out _ B3; have f1 := T6.free (show 6 < 7 by omega) k; have f2 := T6.cell (show 6 < 7 by omega) (show k < 16 by omega))
      go_simp
      refine hK.out _ _ ?_ (fun hHeld => ?_)
      · ((try dsimp only); first | with_reducible exact HALL.out _ _ (HLY.out _ (HTL.out _ B3)).1 | with_reducible exact HALL.out _ _ (HTL.out _ B3) | with_reducible exact HALL.out _ _ (HTL.out _ B2) | with_reducible exact HALL.out _ _ (HTL.out _ hB.drew))
      clear hK K
      (try simp only [Act.put, List.setIfInBounds_toArray, List.set_cons_zero, List.set_cons_succ])
      refine wpAnyH_done (by kernel_rfl) ?_ _
      show wpList _ _ _ _ _ _
      have hT7 := (HLY.out _ (HTL.out _ B3)).1
      have f3 := hT7.free (show 6 < 7 by omega) (4 + k)
      have f4 := hT7.cell (show 6 < 7 by omega) (show 4 + k < 16 by omega)
      have HT8 := Lib.hid (HLY.out _ (HTL.out _ B3)).2
      clear HALL HLY HTL HNG HOF hHeld B2 B3 hb5 hb6 hT7 hB hT T6
      go_wp2
      go_roundw
      case rel => exact ⟨k + 1, by go_num, by omega, HT8.out⟩
      case measure => simp [intOf]; omega
    · obtain rfl : k = 4 := by omega
      rw [show ((4 : Nat) : Int) = 4 from rfl]
      have HT4 := Lib.hid (show TB w0 a2 cr cb wr (upd (tX t) 6 (Lp.aimT t (Lp.aimR gl 4) 0)) t.bas from hT.out)
      obtain ⟨-, -, -, -, t4, -⟩ := HT4.out.tcell
      clear hT HN HGL
      obtain ⟨G0, hG0⟩ : ∃ z, Lp.aimR gl 4 = z := ⟨_, rfl⟩
      rw [hG0] at HT4 HSM
      have HG0 := Lib.hid hG0
      clear hG0
      go_wp2_with fail
      clear t4
      go_loopw [58] (fun si wr => ∃ i : Nat, si = .int .i64 (i : Int) ∧ i ≤ 6 ∧ Hid (TB w0 a2 cr cb wr (upd (tX t) 6 (Lp.aimT t G0 i)) t.bas)) (fun si _ => 6 - (intOf si).toNat)
      case atStart => exact ⟨0, rfl, Nat.zero_le _, HT4.out⟩
      case round =>
        obtain ⟨i, rfl, hi, hT⟩ := hrel
        clear HT4
        by_cases hlt : i < 6
        · have bi := hT.out.bcell hlt
          have hbl := HT.out.bas i hlt
          obtain ⟨-, -, -, -, -, t5⟩ := hT.out.tcell
          have gx := hT.out.cell (show 6 < 7 by omega) (show t.bas i < 16 by omega)
          rw [upd_same] at gx
          have i4 : (0 : Int) ≤ (i : Int) := by omega
          have i5 : (i : Int) < 6 := by omega
          have i6 : (0 : Int) ≤ (t.bas i : Int) := by omega
          have i7 : (t.bas i : Int) < 16 := by omega
          have hG := HSM.out i (by omega)
          have hYs := HT.out.row i hlt
          have HXC := Lib.hid (sm_sz (Lp.smL_at hG (show t.bas i < 16 by omega)))
          have HNX := Lib.hid (show Lp.dropS (t.row i) (Lp.at_ (Lp.aimT t G0 i) (t.bas i)) (Lp.aimT t G0 i) 16 = Lp.aimT t G0 (i + 1) from Lp.dropS_all (by rw [Lp.smL_len hG]; exact Nat.le_refl _))
          have HT5 := Lib.hid (show TB w0 a2 cr cb wr (upd (tX t) 6 (Lp.dropS (t.row i) (Lp.at_ (Lp.aimT t G0 i) (t.bas i)) (Lp.aimT t G0 i) 0)) t.bas by rw [Lp.dropS_zero]; exact hT.out)
          have HL := Lib.hid (fun k (hk : k < 16) W' (T : TB w0 a2 cr cb W' (upd (tX t) 6 (Lp.dropS (t.row i) (Lp.at_ (Lp.aimT t G0 i) (t.bas i)) (Lp.aimT t G0 i) k)) t.bas) => pless_c (sm_sz (Lp.smL_at hG hk)) HXC.out (sm_sz (Lp.smL_at hYs hk)) (by omega) (a2 9) W' (T.good hg) T.sum)
          have HCC := Lib.hid (fun k (hk : k < 16) W' (T : TB w0 a2 cr cb W' (upd (tX t) 6 (Lp.dropS (t.row i) (Lp.at_ (Lp.aimT t G0 i) (t.bas i)) (Lp.aimT t G0 i) k)) t.bas) =>
            (⟨by rw [T.cell (show 6 < 7 by omega) hk, upd_same, Lp.dropS_at (by rw [Lp.smL_len hG]; exact hk)], by rw [T.cell (show i < 7 by omega) hk, upd_other _ _ (by omega), tX_row t hlt]⟩ : W'.cell? ⟨a2 6, k, none⟩ = some ((Value.string ⟨(rtoa (Lp.at_ (Lp.aimT t G0 i) k)).toArray⟩)) ∧ W'.cell? ⟨a2 i, k, none⟩ = some ((Value.string ⟨(rtoa (Lp.at_ (t.row i) k)).toArray⟩))))
          obtain ⟨G1, hG1⟩ : ∃ z, Lp.aimT t G0 (i + 1) = z := ⟨_, rfl⟩
          rw [hG1] at HNX
          have HG1 := Lib.hid hG1
          clear hG1 hG hYs HXC hT hbl
          generalize Lp.aimT t G0 i = G at *
          generalize hxx : Lp.at_ G (t.bas i) = x at *
          clear hxx
          go_wp2_with fail
          clear bi t5 gx
          go_loopw [75] (fun sk wr => ∃ k : Nat, sk = .int .i64 (k : Int) ∧ k ≤ 16 ∧ Hid (TB w0 a2 cr cb wr (upd (tX t) 6 (Lp.dropS (t.row i) x G k)) t.bas)) (fun sk _ => 16 - (intOf sk).toNat)
          case atStart => exact ⟨0, rfl, Nat.zero_le _, HT5.out⟩
          case round =>
            obtain ⟨k, rfl, hk, hT⟩ := hrel
            clear HT5
            by_cases hlk : k < 16
            · have HL1 := Lib.hid (fun W' T => HL.out k hlk W' T)
              have HC1 := Lib.hid (fun W' T => HCC.out k hlk W' T)
              have HS1 := Lib.hid (fun W' (T : TB w0 a2 cr cb W' (upd (tX t) 6 (Lp.dropS (t.row i) x G k)) t.bas) => T.dgoal)
              have i8 : (0 : Int) ≤ (k : Int) := by omega
              have i9 : (k : Int) < 16 := by omega
              clear HL HCC HNX HG1
              generalize Lp.at_ G k - x * Lp.at_ (t.row i) k = q at *
              generalize Lp.at_ G k = qe at *
              generalize Lp.at_ (t.row i) k = qr at *
              have HALL := Lib.hid (fun (W' : World) (hb : Below wr.heap.size wr W') => by
                have T := hT.out.later hb
                obtain ⟨k0, k1⟩ := HC1.out _ T
                obtain ⟨t0, -, -, t3, -, t5⟩ := T.tcell
                exact (⟨t0, t5, t3, T.rcell hlt, k0, k1, T.free (show 6 < 7 by omega) k⟩ : W'.cell? ⟨a2 10, 0, none⟩ = some (.pointer (some ⟨a2 9, 0, none⟩)) ∧ W'.cell? ⟨a2 10, 5, none⟩ = some (.slice (some ⟨a2 6, 0, none⟩) 16 16) ∧ W'.cell? ⟨a2 10, 3, none⟩ = some (.slice (some ⟨a2 8, 0, none⟩) 6 cr) ∧ W'.cell? ⟨a2 8, i, none⟩ = some (.slice (some ⟨a2 i, 0, none⟩) 16 16) ∧ W'.cell? ⟨a2 6, k, none⟩ = some (.string ⟨(rtoa qe).toArray⟩) ∧ W'.cell? ⟨a2 i, k, none⟩ = some (.string ⟨(rtoa qr).toArray⟩) ∧ W'.frozen? ⟨a2 6, k, none⟩ = false))
              have hB := Below.refl wr.heap.size wr
              go_wp2_with fail
              refine Go.Front.wp_region_front (S := fun V => V.cell? ⟨a2 10, 0, none⟩ = some (.pointer (some ⟨a2 9, 0, none⟩)) ∧ V.cell? ⟨a2 10, 5, none⟩ = some (.slice (some ⟨a2 6, 0, none⟩) 16 16) ∧ V.cell? ⟨a2 10, 3, none⟩ = some (.slice (some ⟨a2 8, 0, none⟩) 6 cr) ∧ V.cell? ⟨a2 8, i, none⟩ = some (.slice (some ⟨a2 i, 0, none⟩) 16 16) ∧ V.cell? ⟨a2 6, k, none⟩ = some (.string ⟨(rtoa qe).toArray⟩) ∧ V.cell? ⟨a2 i, k, none⟩ = some (.string ⟨(rtoa qr).toArray⟩) ∧ V.frozen? ⟨a2 6, k, none⟩ = false) 28 (by kernel_rfl) (by simp) (by kernel_rfl) (by kernel_rfl) (by kernel_rfl) (by kernel_rfl) ?_ (fun hHeld => ?_)
              · (first | with_reducible exact HALL.out _ B2 | with_reducible exact HALL.out _ hB.drew)
              simp only [List.take_succ_cons, List.take_zero, List.drop_succ_cons, List.drop_zero]
              refine wpAnyH_take (i := 0) (v := ?_) rfl (by kernel_rfl) (by kernel_rfl) (by kernel_rfl) (fun _ _ _ h => h) (Or.inl ⟨by rfl, ?_⟩) hHeld ?_
              rotate_left
              · intro W hSw; (try dsimp only at hSw); go_simp <;> with_reducible rfl
              (try simp only [Act.put, List.setIfInBounds_toArray, List.set_cons_zero, List.set_cons_succ])
              refine wpAnyH_take (i := 1) (v := ?_) rfl (by kernel_rfl) (by kernel_rfl) (by kernel_rfl) (fun _ _ _ h => h) (Or.inl ⟨by rfl, ?_⟩) hHeld ?_
              rotate_left
              · intro W hSw; (try dsimp only at hSw); go_simp <;> with_reducible rfl
              (try simp only [Act.put, List.setIfInBounds_toArray, List.set_cons_zero, List.set_cons_succ])
              refine wpAnyH_take (i := 2) (v := ?_) rfl (by kernel_rfl) (by kernel_rfl) (by kernel_rfl) (fun _ _ _ h => h) (Or.inl ⟨by rfl, ?_⟩) hHeld ?_
              rotate_left
              · intro W hSw; (try dsimp only at hSw); go_simp <;> with_reducible rfl
              (try simp only [Act.put, List.setIfInBounds_toArray, List.set_cons_zero, List.set_cons_succ])
              refine wpAnyH_take (i := 3) (v := ?_) rfl (by kernel_rfl) (by kernel_rfl) (by kernel_rfl) (fun _ _ _ h => h) (Or.inl ⟨by rfl, ?_⟩) hHeld ?_
              rotate_left
              · intro W hSw; (try dsimp only at hSw); go_simp <;> with_reducible rfl
              (try simp only [Act.put, List.setIfInBounds_toArray, List.set_cons_zero, List.set_cons_succ])
              refine wpAnyH_take (i := 4) (v := ?_) rfl (by kernel_rfl) (by kernel_rfl) (by kernel_rfl) (fun _ _ _ h => h) (Or.inl ⟨by rfl, ?_⟩) hHeld ?_
              rotate_left
              · intro W hSw; (try dsimp only at hSw); go_simp <;> with_reducible rfl
              (try simp only [Act.put, List.setIfInBounds_toArray, List.set_cons_zero, List.set_cons_succ])
              refine wpAnyH_take (i := 5) (v := ?_) rfl (by kernel_rfl) (by kernel_rfl) (by kernel_rfl) (fun _ _ _ h => h) (Or.inl ⟨by rfl, ?_⟩) hHeld ?_
              rotate_left
              · intro W hSw; (try dsimp only at hSw); go_simp <;> with_reducible rfl
              (try simp only [Act.put, List.setIfInBounds_toArray, List.set_cons_zero, List.set_cons_succ])
              refine wpAnyH_take (i := 6) (v := ?_) rfl (by kernel_rfl) (by kernel_rfl) (by kernel_rfl) (fun _ _ _ h => h) (Or.inl ⟨by rfl, ?_⟩) hHeld ?_
              rotate_left
              · intro W hSw; (try dsimp only at hSw); go_simp <;> with_reducible rfl
              (try simp only [Act.put, List.setIfInBounds_toArray, List.set_cons_zero, List.set_cons_succ])
              refine wpAnyH_take (i := 7) (v := ?_) rfl (by kernel_rfl) (by kernel_rfl) (by kernel_rfl) (fun _ _ _ h => h) (Or.inl ⟨by rfl, ?_⟩) hHeld ?_
              rotate_left
              · intro W hSw; (try dsimp only at hSw); go_simp <;> with_reducible rfl
              (try simp only [Act.put, List.setIfInBounds_toArray, List.set_cons_zero, List.set_cons_succ])
              refine wpAnyH_take (i := 8) (v := ?_) rfl (by kernel_rfl) (by kernel_rfl) (by kernel_rfl) (fun _ _ _ h => h) (Or.inl ⟨by rfl, ?_⟩) hHeld ?_
              rotate_left
              · intro W hSw; (try dsimp only at hSw); go_simp <;> with_reducible rfl
              (try simp only [Act.put, List.setIfInBounds_toArray, List.set_cons_zero, List.set_cons_succ])
              refine wpAnyH_take (i := 9) (v := ?_) rfl (by kernel_rfl) (by kernel_rfl) (by kernel_rfl) (fun _ _ _ h => h) (Or.inl ⟨by rfl, ?_⟩) hHeld ?_
              rotate_left
              · intro W hSw; (try dsimp only at hSw); go_simp <;> with_reducible rfl
              (try simp only [Act.put, List.setIfInBounds_toArray, List.set_cons_zero, List.set_cons_succ])
              refine wpAnyH_take (i := 10) (v := ?_) rfl (by kernel_rfl) (by kernel_rfl) (by kernel_rfl) (fun _ _ _ h => h) (Or.inl ⟨by rfl, ?_⟩) hHeld ?_
              rotate_left
              · intro W hSw; (try dsimp only at hSw); go_simp <;> with_reducible rfl
              (try simp only [Act.put, List.setIfInBounds_toArray, List.set_cons_zero, List.set_cons_succ])
              refine wpAnyH_take (i := 11) (v := ?_) rfl (by kernel_rfl) (by kernel_rfl) (by kernel_rfl) (fun _ _ _ h => h) (Or.inl ⟨by rfl, ?_⟩) hHeld ?_
              rotate_left
              · intro W hSw; (try dsimp only at hSw); go_simp <;> with_reducible rfl
              (try simp only [Act.put, List.setIfInBounds_toArray, List.set_cons_zero, List.set_cons_succ])
              refine wpAnyH_take (i := 12) (v := ?_) rfl (by kernel_rfl) (by kernel_rfl) (by kernel_rfl) (fun _ _ _ h => h) (Or.inl ⟨by rfl, ?_⟩) hHeld ?_
              rotate_left
              · intro W hSw; (try dsimp only at hSw); go_simp <;> with_reducible rfl
              (try simp only [Act.put, List.setIfInBounds_toArray, List.set_cons_zero, List.set_cons_succ])
              refine wpAnyH_take (i := 13) (v := ?_) rfl (by kernel_rfl) (by kernel_rfl) (by kernel_rfl) (fun _ _ _ h => h) (Or.inl ⟨by rfl, ?_⟩) hHeld ?_
              rotate_left
              · intro W hSw; (try dsimp only at hSw); go_simp <;> with_reducible rfl
              (try simp only [Act.put, List.setIfInBounds_toArray, List.set_cons_zero, List.set_cons_succ])
              refine wpAnyH_take (i := 14) (v := ?_) rfl (by kernel_rfl) (by kernel_rfl) (by kernel_rfl) (fun _ _ _ h => h) (Or.inl ⟨by rfl, ?_⟩) hHeld ?_
              rotate_left
              · intro W hSw; (try dsimp only at hSw); go_simp <;> with_reducible rfl
              (try simp only [Act.put, List.setIfInBounds_toArray, List.set_cons_zero, List.set_cons_succ])
              refine wpAnyH_take (i := 15) (v := ?_) rfl (by kernel_rfl) (by kernel_rfl) (by kernel_rfl) (fun _ _ _ h => h) (Or.inl ⟨by rfl, ?_⟩) hHeld ?_
              rotate_left
              · intro W hSw; (try dsimp only at hSw); go_simp <;> with_reducible rfl
              (try simp only [Act.put, List.setIfInBounds_toArray, List.set_cons_zero, List.set_cons_succ])
              refine wpAnyH_take (i := 16) (v := ?_) rfl (by kernel_rfl) (by kernel_rfl) (by kernel_rfl) (fun _ _ _ h => h) (Or.inl ⟨by rfl, ?_⟩) hHeld ?_
              rotate_left
              · intro W hSw; (try dsimp only at hSw); go_simp <;> with_reducible rfl
              (try simp only [Act.put, List.setIfInBounds_toArray, List.set_cons_zero, List.set_cons_succ])
              refine wpAnyH_take (i := 17) (v := ?_) rfl (by kernel_rfl) (by kernel_rfl) (by kernel_rfl) (fun _ _ _ h => h) (Or.inl ⟨by rfl, ?_⟩) hHeld ?_
              rotate_left
              · intro W hSw; (try dsimp only at hSw); go_simp <;> with_reducible rfl
              (try simp only [Act.put, List.setIfInBounds_toArray, List.set_cons_zero, List.set_cons_succ])
              refine wpAnyH_take (i := 18) (v := ?_) rfl (by kernel_rfl) (by kernel_rfl) (by kernel_rfl) (fun _ _ _ h => h) (Or.inl ⟨by rfl, ?_⟩) hHeld ?_
              rotate_left
              · intro W hSw; (try dsimp only at hSw); go_simp <;> with_reducible rfl
              (try simp only [Act.put, List.setIfInBounds_toArray, List.set_cons_zero, List.set_cons_succ])
              refine wpAnyH_take (i := 19) (v := ?_) rfl (by kernel_rfl) (by kernel_rfl) (by kernel_rfl) (fun _ _ _ h => h) (Or.inl ⟨by rfl, ?_⟩) hHeld ?_
              rotate_left
              · intro W hSw; (try dsimp only at hSw); go_simp <;> with_reducible rfl
              (try simp only [Act.put, List.setIfInBounds_toArray, List.set_cons_zero, List.set_cons_succ])
              refine wpAnyH_take (i := 20) (v := ?_) rfl (by kernel_rfl) (by kernel_rfl) (by kernel_rfl) (fun _ _ _ h => h) (Or.inl ⟨by rfl, ?_⟩) hHeld ?_
              rotate_left
              · intro W hSw; (try dsimp only at hSw); go_simp <;> with_reducible rfl
              (try simp only [Act.put, List.setIfInBounds_toArray, List.set_cons_zero, List.set_cons_succ])
              refine wpAnyH_take (i := 21) (v := ?_) rfl (by kernel_rfl) (by kernel_rfl) (by kernel_rfl) (fun _ _ _ h => h) (Or.inl ⟨by rfl, ?_⟩) hHeld ?_
              rotate_left
              · intro W hSw; (try dsimp only at hSw); go_simp <;> with_reducible rfl
              (try simp only [Act.put, List.setIfInBounds_toArray, List.set_cons_zero, List.set_cons_succ])
              refine wpAnyH_take (i := 22) (v := ?_) rfl (by kernel_rfl) (by kernel_rfl) (by kernel_rfl) (fun _ _ _ h => h) (Or.inl ⟨by rfl, ?_⟩) hHeld ?_
              rotate_left
              · intro W hSw; (try dsimp only at hSw); go_simp <;> with_reducible rfl
              (try simp only [Act.put, List.setIfInBounds_toArray, List.set_cons_zero, List.set_cons_succ])
              refine wpAnyH_take (i := 23) (v := ?_) rfl (by kernel_rfl) (by kernel_rfl) (by kernel_rfl) (fun _ _ _ h => h) (Or.inl ⟨by rfl, ?_⟩) hHeld ?_
              rotate_left
              · intro W hSw; (try dsimp only at hSw); go_simp <;> with_reducible rfl
              (try simp only [Act.put, List.setIfInBounds_toArray, List.set_cons_zero, List.set_cons_succ])
              refine wpAnyH_take (i := 24) (v := ?_) rfl (by kernel_rfl) (by kernel_rfl) (by kernel_rfl) (fun _ _ _ h => h) (Or.inl ⟨by rfl, ?_⟩) hHeld ?_
              rotate_left
              · intro W hSw; (try dsimp only at hSw); go_simp <;> with_reducible rfl
              (try simp only [Act.put, List.setIfInBounds_toArray, List.set_cons_zero, List.set_cons_succ])
              refine wpAnyH_take (i := 25) (v := ?_) rfl (by kernel_rfl) (by kernel_rfl) (by kernel_rfl) (fun _ _ _ h => h) (Or.inl ⟨by rfl, ?_⟩) hHeld ?_
              rotate_left
              · intro W hSw; (try dsimp only at hSw); go_simp <;> with_reducible rfl
              (try simp only [Act.put, List.setIfInBounds_toArray, List.set_cons_zero, List.set_cons_succ])
              refine wpAnyH_take (i := 26) (v := ?_) rfl (by kernel_rfl) (by kernel_rfl) (by kernel_rfl) (fun _ _ _ h => h) (Or.inl ⟨by rfl, ?_⟩) hHeld ?_
              rotate_left
              · intro W hSw; (try dsimp only at hSw); go_simp <;> with_reducible rfl
              (try simp only [Act.put, List.setIfInBounds_toArray, List.set_cons_zero, List.set_cons_succ])
              refine wpAnyH_ready (rs := [27]) (by kernel_rfl) (by simp) ?_
              refine AllReadyH.cons rfl (fun K hK => ?_) AllReadyH.nil
              go_simp
              ((with_reducible refine (HL1.out _ hT.out.drew).mono ?_); rintro en w2 ⟨rfl, hb2⟩; have B2 := hB.drew.nxt hb2)
              refine hK.out _ _ ?_ (fun hHeld => ?_)
              · ((try dsimp only); first | with_reducible exact HALL.out _ B2 | with_reducible exact HALL.out _ hB.drew)
              clear hK K
              (try simp only [Act.put, List.setIfInBounds_toArray, List.set_cons_zero, List.set_cons_succ])
              refine wpAnyH_done (by kernel_rfl) ?_ _
              show wpList _ _ _ _ _ _
              have T2 := hT.out.later B2
              have T3 := Lib.hid (HS1.out _ T2)
              have f1 := T2.free (show 6 < 7 by omega) k
              have f2 := (HC1.out _ T2).1
              clear T2 hT HALL HL1 HS1 hHeld HC1 B2 hb2
              go_wp2
              go_roundw
              case rel => exact ⟨k + 1, by go_num, by omega, T3.out⟩
              case measure => simp [intOf]; omega
            · obtain rfl : k = 16 := by omega
              rw [show ((16 : Nat) : Int) = 16 from rfl]
              have hT1 := hT.out
              rw [HNX.out] at hT1
              have HT1 := Lib.hid hT1
              clear hT1 hT HL HCC HNX
              go_wp2
              go_roundw
              case rel => exact ⟨i + 1, by go_num, by omega, by rw [HG1.out]; exact HT1.out⟩
              case measure => simp [intOf]; omega
        · obtain rfl : i = 6 := by omega
          rw [show ((6 : Nat) : Int) = 6 from rfl]
          have HT6 := Lib.hid hT.out
          clear hT HSM
          go_wp2
          refine bodyPost_ret (results_none rfl _ _ _) rfl ?_
          refine ⟨rfl, a2, H10.out.symm, HT6.out.congr (fun i hi => ?_) (fun i _ => by rw [← HA.out, Lp.aimed_bas])⟩
          rw [← HA.out]
          by_cases e : i = 6
          · rw [e, upd_same, tX_goal, Lp.aimed_goal, ← HG0.out]
          · rw [upd_other _ _ e, tX_row _ (by omega), tX_row _ (by omega), Lp.aimed_row]
end Go.Proofs.Wk
/- LINEAR PROGRAMS: the point, the weights, products. -/
namespace Lp
theorem allS_len (t : Tab) : ∀ i, (allS t i).length = 15
  | 0 => by simp [allS]
  | i + 1 => by simp [allS, allS_len t i]
theorem allS_sm {t : Tab} (h : SmT t) : ∀ i, i ≤ 6 → ∀ k, k < 15 → sm (at_ (allS t i) k) = true
  | 0, _, k, hk => by
    rw [allS, at_get (by simpa using hk)]
    simp only [List.getElem_replicate]
    decide
  | i + 1, hi, k, hk => by
    rw [allS, at_set (by rw [allS_len]; exact hk)]
    split
    · exact smL_at (h.row i (by omega)) (by omega)
    · exact allS_sm h i (by omega) k hk
/-- The first k numbers of a point, of weights. -/
def ptS (t : Tab) (k : Nat) : List Rat := (List.range k).map fun k => at_ (allS t 6) k - at_ (allS t 6) (4 + k)
def wtS (t : Tab) (k : Nat) : List Rat := (List.range k).map fun i => -(at_ t.goal (8 + i))
theorem ptS_step (t : Tab) (k : Nat) : ptS t (k + 1) = ptS t k ++ [at_ (allS t 6) k - at_ (allS t 6) (4 + k)] := by simp [ptS, List.range_succ]
theorem wtS_step (t : Tab) (k : Nat) : wtS t (k + 1) = wtS t k ++ [-(at_ t.goal (8 + k))] := by simp [wtS, List.range_succ]
def dotS (a b : List Rat) : Nat → Rat
  | 0 => 0
  | k + 1 => dotS a b k + at_ a k * at_ b k
end Lp
namespace Go.Proofs.Wk
open Go.RowKit Mt

theorem infoQ : (Tryz.prog.info? 27).map (fun i => (i.zero, i.size, i.bytes)) = some (some (.string ⟨#[]⟩), 1, 16) := by kernel_rfl
/-- Numbers in a slice of their own. -/
def Nms (W : World) (base : Nat) (v : Value) (l : List Rat) : Prop := W.ownsRow base 27 1 v l.length (l.map rtF)
theorem Nms.later {W W' : World} {base : Nat} {v : Value} {l : List Rat} (h : Nms W base v l) (hb : Below W.heap.size W W') : Nms W' base v l := Tk.own h (.below hb)
theorem Nms.cells {W : World} {base : Nat} {v : Value} {l : List Rat} (h : Nms W base v l) (h0 : 0 < l.length) : ∃ g cap, v = .slice (some ⟨g, 0, none⟩) l.length cap ∧ base ≤ g ∧ ∀ k, k < l.length → W.cell? ⟨g, k, none⟩ = some ((Value.string ⟨(rtoa (Lp.at_ l k)).toArray⟩)) := by
  rcases h.2 with ⟨-, z⟩ | ⟨g, cap, cur, rfl, hb, hg, -, -, -, ht⟩
  · omega
  · refine ⟨g, cap, rfl, hb, fun k hk => ?_⟩
    rw [cell_of_row _ _ _ _ _ _ hg]
    have : (cur.toList.take (l.length * 1))[k]? = (l.map rtF)[k]? := by rw [ht]
    rw [List.getElem?_take, if_pos (by omega), List.getElem?_map, List.getElem?_eq_getElem hk] at this
    rw [← Array.getElem?_toList, this, Lp.at_get hk]; rfl
theorem Nms.push {W' : World} {base : Nat} {v' : Value} {l : List Rat} {q : Rat} (h : W'.ownsRow base 27 1 v' (l.length + 1) (l.map rtF ++ [(Value.string ⟨(rtoa q).toArray⟩)])) : Nms W' base v' (l ++ [q]) := by
  unfold Nms
  rw [List.length_append, List.map_append]
  exact h
def NmP (W : World) (l : List Rat) (e : Ending) (W' : World) : Prop := ∃ v, e = .returned v ∧ Nms W' W.heap.size v l ∧ Below W.heap.size W W'
set_option maxRecDepth 100000 in
set_option linter.unusedSimpArgs false in
set_option maxHeartbeats 4000000 in
theorem weights_c {w0 W : World} (hg : Good w0) {ad : Nat → Nat} {cr cb : Nat} {t : Lp.Tab} (ht : Lp.SmT t) (h : TB w0 ad cr cb W (tX t) t.bas) :
    Calls Tryz.prog 77 #[.pointer (some ⟨ad 10, 0, none⟩)] W (NmP W (Lp.wtS t 6)) := by
  have HT := Lib.hid (fun W' (k : Below W.heap.size W W') => h.later k)
  have HG := Lib.hid ht.goal
  obtain ⟨-, -, t2, -⟩ := h.tcell
  clear h
  go_enter Tryz.func77, Tryz.ntmps77
  go_wp2_with fail
  clear t2
  go_loopw [3, 9] (fun sv si wr => ∃ k : Nat, si = .int .i64 (k : Int) ∧ k ≤ 6 ∧ Hid (Nms wr W.heap.size sv (Lp.wtS t k)) ∧ Hid (Below W.heap.size W wr)) (fun _ si _ => 6 - (intOf si).toNat)
  case atStart => exact ⟨0, rfl, Nat.zero_le _, ⟨rfl, .inl ⟨rfl, rfl⟩⟩, Below.refl _ _⟩
  case round =>
    obtain ⟨k, rfl, hk, hN, hB⟩ := hrel
    by_cases hlt : k < 6
    · have HX := Lib.hid (fun W' (b : Below wr.heap.size wr W') => (by
        have q := (HT.out _ (hB.out.nxt b)).cell (show 6 < 7 by omega) (show 8 + k < 16 by omega)
        rwa [tX_goal] at q : W'.cell? ⟨ad 6, 8 + k, none⟩ = some ((Value.string ⟨(rtoa (Lp.at_ t.goal (8 + k))).toArray⟩))))
      have HNG := Lib.hid (fun W' (b : Below wr.heap.size wr W') => lneg_c (sm_sz (Lp.smL_at HG.out (show 8 + k < 16 by omega))) (by omega) W' ((HT.out _ (hB.out.nxt b)).good hg))
      have HOF := Lib.hid (fun (a : Txt) W' (b : Below wr.heap.size wr W') => pof_c a (ad 9) W' (HT.out _ (hB.out.nxt b)).sum)
      have HST := Lib.hid (Lp.wtS_step t k)
      have hlen : (Lp.wtS t k).length = k := by simp [Lp.wtS]
      have i8 : (0 : Int) ≤ 8 + (k : Int) := by omega
      have i9 : 8 + (k : Int) < 16 := by omega
      have i10 : (8 + (k : Int)).toNat = 8 + k := by omega
      have w8 : IntKind.i64.wrap 8 = 8 := by decide
      have w9 : IntKind.i64.wrap (8 + (k : Int)) = 8 + (k : Int) := by rw [IntKind.wrap_i64]; omega
      have HALL := Lib.hid (fun (W' : World) (b : Below wr.heap.size wr W') => by
        obtain ⟨t0, t1, -, -, -, t5⟩ := (HT.out _ (hB.out.nxt b)).tcell
        exact (⟨t0, t1, t5, HX.out _ b⟩ : W'.cell? ⟨ad 10, 0, none⟩ = some (.pointer (some ⟨ad 9, 0, none⟩)) ∧ W'.cell? ⟨ad 10, 1, none⟩ = some (.int .i64 4) ∧ W'.cell? ⟨ad 10, 5, none⟩ = some (.slice (some ⟨ad 6, 0, none⟩) 16 16) ∧ W'.cell? ⟨ad 6, 8 + k, none⟩ = some ((Value.string ⟨(rtoa (Lp.at_ t.goal (8 + k))).toArray⟩))))
      have hb0 := Below.refl wr.heap.size wr
      obtain ⟨l2, hl2⟩ : ∃ z, Lp.wtS t (k + 1) = z := ⟨_, rfl⟩
      rw [hl2] at HST
      have HL2 := Lib.hid hl2
      clear hl2 HX HG
      generalize Lp.at_ t.goal (8 + k) = x at *
      generalize Lp.wtS t k = l at *
      go_wp2_with fail
      refine Go.Front.wp_region_front (S := fun V => V.cell? ⟨ad 10, 0, none⟩ = some (.pointer (some ⟨ad 9, 0, none⟩)) ∧ V.cell? ⟨ad 10, 1, none⟩ = some (.int .i64 4) ∧ V.cell? ⟨ad 10, 5, none⟩ = some (.slice (some ⟨ad 6, 0, none⟩) 16 16) ∧ V.cell? ⟨ad 6, 8 + k, none⟩ = some (.string ⟨(rtoa x).toArray⟩)) 23 (by kernel_rfl) (by simp) (by kernel_rfl) (by kernel_rfl) (by kernel_rfl) (by kernel_rfl) ?_ (fun hHeld => ?_)
      · (first | with_reducible exact HALL.out _ B4 | with_reducible exact HALL.out _ B3 | with_reducible exact HALL.out _ B2 | with_reducible exact HALL.out _ hb0.drew)
      simp only [List.take_succ_cons, List.take_zero, List.drop_succ_cons, List.drop_zero]
      refine wpAnyH_take (i := 0) (v := ?_) rfl (by kernel_rfl) (by kernel_rfl) (by kernel_rfl) (fun _ _ _ h => h) (Or.inl ⟨by rfl, ?_⟩) hHeld ?_
      rotate_left
      · intro W hSw; (try dsimp only at hSw); go_simp <;> with_reducible rfl
      (try simp only [Act.put, List.setIfInBounds_toArray, List.set_cons_zero, List.set_cons_succ])
      refine wpAnyH_take (i := 1) (v := ?_) rfl (by kernel_rfl) (by kernel_rfl) (by kernel_rfl) (fun _ _ _ h => h) (Or.inl ⟨by rfl, ?_⟩) hHeld ?_
      rotate_left
      · intro W hSw; (try dsimp only at hSw); go_simp <;> with_reducible rfl
      (try simp only [Act.put, List.setIfInBounds_toArray, List.set_cons_zero, List.set_cons_succ])
      refine wpAnyH_take (i := 2) (v := ?_) rfl (by kernel_rfl) (by kernel_rfl) (by kernel_rfl) (fun _ _ _ h => h) (Or.inl ⟨by rfl, ?_⟩) hHeld ?_
      rotate_left
      · intro W hSw; (try dsimp only at hSw); go_simp <;> with_reducible rfl
      (try simp only [Act.put, List.setIfInBounds_toArray, List.set_cons_zero, List.set_cons_succ])
      refine wpAnyH_take (i := 3) (v := ?_) rfl (by kernel_rfl) (by kernel_rfl) (by kernel_rfl) (fun _ _ _ h => h) (Or.inl ⟨by rfl, ?_⟩) hHeld ?_
      rotate_left
      · intro W hSw; (try dsimp only at hSw); go_simp <;> with_reducible rfl
      (try simp only [Act.put, List.setIfInBounds_toArray, List.set_cons_zero, List.set_cons_succ])
      refine wpAnyH_take (i := 4) (v := ?_) rfl (by kernel_rfl) (by kernel_rfl) (by kernel_rfl) (fun _ _ _ h => h) (Or.inl ⟨by rfl, ?_⟩) hHeld ?_
      rotate_left
      · intro W hSw; (try dsimp only at hSw); go_simp <;> with_reducible rfl
      (try simp only [Act.put, List.setIfInBounds_toArray, List.set_cons_zero, List.set_cons_succ])
      refine wpAnyH_take (i := 5) (v := ?_) rfl (by kernel_rfl) (by kernel_rfl) (by kernel_rfl) (fun _ _ _ h => h) (Or.inl ⟨by rfl, ?_⟩) hHeld ?_
      rotate_left
      · intro W hSw; (try dsimp only at hSw); go_simp <;> with_reducible rfl
      (try simp only [Act.put, List.setIfInBounds_toArray, List.set_cons_zero, List.set_cons_succ])
      refine wpAnyH_take (i := 6) (v := ?_) rfl (by kernel_rfl) (by kernel_rfl) (by kernel_rfl) (fun _ _ _ h => h) (Or.inl ⟨by rfl, ?_⟩) hHeld ?_
      rotate_left
      · intro W hSw; (try dsimp only at hSw); go_simp <;> with_reducible rfl
      (try simp only [Act.put, List.setIfInBounds_toArray, List.set_cons_zero, List.set_cons_succ])
      refine wpAnyH_take (i := 7) (v := ?_) rfl (by kernel_rfl) (by kernel_rfl) (by kernel_rfl) (fun _ _ _ h => h) (Or.inl ⟨by rfl, ?_⟩) hHeld ?_
      rotate_left
      · intro W hSw; (try dsimp only at hSw); go_simp <;> with_reducible rfl
      (try simp only [Act.put, List.setIfInBounds_toArray, List.set_cons_zero, List.set_cons_succ])
      refine wpAnyH_take (i := 8) (v := ?_) rfl (by kernel_rfl) (by kernel_rfl) (by kernel_rfl) (fun _ _ _ h => h) (Or.inl ⟨by rfl, ?_⟩) hHeld ?_
      rotate_left
      · intro W hSw; (try dsimp only at hSw); go_simp <;> with_reducible rfl
      (try simp only [Act.put, List.setIfInBounds_toArray, List.set_cons_zero, List.set_cons_succ])
      refine wpAnyH_take (i := 9) (v := ?_) rfl (by kernel_rfl) (by kernel_rfl) (by kernel_rfl) (fun _ _ _ h => h) (Or.inl ⟨by rfl, ?_⟩) hHeld ?_
      rotate_left
      · intro W hSw; (try dsimp only at hSw); go_simp <;> with_reducible rfl
      (try simp only [Act.put, List.setIfInBounds_toArray, List.set_cons_zero, List.set_cons_succ])
      refine wpAnyH_take (i := 10) (v := ?_) rfl (by kernel_rfl) (by kernel_rfl) (by kernel_rfl) (fun _ _ _ h => h) (Or.inl ⟨by rfl, ?_⟩) hHeld ?_
      rotate_left
      · intro W hSw; (try dsimp only at hSw); go_simp <;> with_reducible rfl
      (try simp only [Act.put, List.setIfInBounds_toArray, List.set_cons_zero, List.set_cons_succ])
      refine wpAnyH_take (i := 11) (v := ?_) rfl (by kernel_rfl) (by kernel_rfl) (by kernel_rfl) (fun _ _ _ h => h) (Or.inl ⟨by rfl, ?_⟩) hHeld ?_
      rotate_left
      · intro W hSw; (try dsimp only at hSw); go_simp <;> with_reducible rfl
      (try simp only [Act.put, List.setIfInBounds_toArray, List.set_cons_zero, List.set_cons_succ])
      refine wpAnyH_take (i := 12) (v := ?_) rfl (by kernel_rfl) (by kernel_rfl) (by kernel_rfl) (fun _ _ _ h => h) (Or.inl ⟨by rfl, ?_⟩) hHeld ?_
      rotate_left
      · intro W hSw; (try dsimp only at hSw); go_simp <;> with_reducible rfl
      (try simp only [Act.put, List.setIfInBounds_toArray, List.set_cons_zero, List.set_cons_succ])
      refine wpAnyH_take (i := 13) (v := ?_) rfl (by kernel_rfl) (by kernel_rfl) (by kernel_rfl) (fun _ _ _ h => h) (Or.inl ⟨by rfl, ?_⟩) hHeld ?_
      rotate_left
      · intro W hSw; (try dsimp only at hSw); go_simp <;> with_reducible rfl
      (try simp only [Act.put, List.setIfInBounds_toArray, List.set_cons_zero, List.set_cons_succ])
      refine wpAnyH_take (i := 14) (v := ?_) rfl (by kernel_rfl) (by kernel_rfl) (by kernel_rfl) (fun _ _ _ h => h) (Or.inl ⟨by rfl, ?_⟩) hHeld ?_
      rotate_left
      · intro W hSw; (try dsimp only at hSw); go_simp <;> with_reducible rfl
      (try simp only [Act.put, List.setIfInBounds_toArray, List.set_cons_zero, List.set_cons_succ])
      refine wpAnyH_take (i := 15) (v := ?_) rfl (by kernel_rfl) (by kernel_rfl) (by kernel_rfl) (fun _ _ _ h => h) (Or.inl ⟨by rfl, ?_⟩) hHeld ?_
      rotate_left
      · intro W hSw; (try dsimp only at hSw); go_simp <;> with_reducible rfl
      (try simp only [Act.put, List.setIfInBounds_toArray, List.set_cons_zero, List.set_cons_succ])
      refine wpAnyH_take (i := 16) (v := ?_) rfl (by kernel_rfl) (by kernel_rfl) (by kernel_rfl) (fun _ _ _ h => h) (Or.inl ⟨by rfl, ?_⟩) hHeld ?_
      rotate_left
      · intro W hSw; (try dsimp only at hSw); go_simp <;> with_reducible rfl
      (try simp only [Act.put, List.setIfInBounds_toArray, List.set_cons_zero, List.set_cons_succ])
      refine wpAnyH_take (i := 17) (v := ?_) rfl (by kernel_rfl) (by kernel_rfl) (by kernel_rfl) (fun _ _ _ h => h) (Or.inl ⟨by rfl, ?_⟩) hHeld ?_
      rotate_left
      · intro W hSw; (try dsimp only at hSw); go_simp <;> with_reducible rfl
      (try simp only [Act.put, List.setIfInBounds_toArray, List.set_cons_zero, List.set_cons_succ])
      refine wpAnyH_ready (rs := [18]) (by kernel_rfl) (by simp) ?_
      refine AllReadyH.cons rfl (fun K hK => ?_) AllReadyH.nil
      go_simp
      ((with_reducible refine (HNG.out _ hb0.drew).mono ?_); rintro en w2 ⟨rfl, hb2⟩; have B2 := hb0.drew.nxt hb2; go_simp)
      refine hK.out _ _ ?_ (fun hHeld => ?_)
      · ((try dsimp only); first | with_reducible exact HALL.out _ B4 | with_reducible exact HALL.out _ B3 | with_reducible exact HALL.out _ B2 | with_reducible exact HALL.out _ hb0.drew)
      clear hK K
      (try simp only [Act.put, List.setIfInBounds_toArray, List.set_cons_zero, List.set_cons_succ])
      refine wpAnyH_take (i := 19) (v := ?_) rfl (by kernel_rfl) (by kernel_rfl) (by kernel_rfl) (fun _ _ _ h => h) (Or.inl ⟨by rfl, ?_⟩) hHeld ?_
      rotate_left
      · intro W hSw; (try dsimp only at hSw); go_simp <;> with_reducible rfl
      (try simp only [Act.put, List.setIfInBounds_toArray, List.set_cons_zero, List.set_cons_succ])
      refine wpAnyH_take (i := 20) (v := ?_) rfl (by kernel_rfl) (by kernel_rfl) (by kernel_rfl) (fun _ _ _ h => h) (Or.inl ⟨by rfl, ?_⟩) hHeld ?_
      rotate_left
      · intro W hSw; (try dsimp only at hSw); go_simp <;> with_reducible rfl
      (try simp only [Act.put, List.setIfInBounds_toArray, List.set_cons_zero, List.set_cons_succ])
      refine wpAnyH_ready (rs := [21]) (by kernel_rfl) (by simp) ?_
      refine AllReadyH.cons rfl (fun K hK => ?_) AllReadyH.nil
      go_simp
      ((with_reducible refine (HOF.out _ _ B2).mono ?_); rintro en w3 ⟨rfl, hb3⟩; have B3 := B2.nxt hb3; have B4 := B3.nxt (lal w3 (.cells #[Value.string ⟨(rtoa (-x)).toArray⟩] 27)))
      refine hK.out _ _ ?_ (fun hHeld => ?_)
      · ((try dsimp only); first | with_reducible exact HALL.out _ B4 | with_reducible exact HALL.out _ B3 | with_reducible exact HALL.out _ B2 | with_reducible exact HALL.out _ hb0.drew)
      clear hK K
      (try simp only [Act.put, List.setIfInBounds_toArray, List.set_cons_zero, List.set_cons_succ])
      refine wpAnyH_ready (rs := [22]) (by kernel_rfl) (by simp) ?_
      refine AllReadyH.cons rfl (fun K hK => ?_) AllReadyH.nil
      go_simp
      refine hK.out _ _ ?_ (fun hHeld => ?_)
      · ((try dsimp only); first | with_reducible exact HALL.out _ B4 | with_reducible exact HALL.out _ B3 | with_reducible exact HALL.out _ B2 | with_reducible exact HALL.out _ hb0.drew)
      clear hK K
      (try simp only [Act.put, List.setIfInBounds_toArray, List.set_cons_zero, List.set_cons_succ])
      refine wpAnyH_done (by kernel_rfl) ?_ _
      show wpList _ _ _ _ _ _
      refine wpList_app1 (by rfl) _ _ 64 27 (by rfl) Tryz.underlying64 (.string ⟨#[]⟩) 16 (by decide) infoQ rfl W.heap.size _ l.length (l.map rtF) (by rfl) (hN.out.later B4) w3.heap.size ((Value.string ⟨(rtoa (-x)).toArray⟩)) (by rfl) (one_cell (heap_alloc_new w3 _)) rfl (by omega) (hB.out.nxt B4).size ?_
      intro v5 w5 ho5 hg5
      have HB5 := Lib.hid (own_below (hB.out.nxt B4) (hB.out.nxt B4).size (hN.out.later B4) (Nat.le_refl _) hg5)
      have HN5 := Lib.hid (Nms.push ho5)
      rw [← HST.out] at HN5
      clear HALL HNG HOF hHeld B2 B3 B4 hb2 hb3 hN hB ho5 hg5 hb0
      go_wp2
      go_roundw
      case rel => exact ⟨k + 1, by go_num, by omega, by rw [HL2.out]; exact HN5.out, HB5.out⟩
      case measure => simp [intOf]; omega
    · obtain rfl : k = 6 := by omega
      rw [show ((6 : Nat) : Int) = 6 from rfl]
      clear HT HG
      go_wp2
      go_ret
      exact ⟨_, rfl, hN.out, hB.out⟩
end Go.Proofs.Wk
/- LINEAR PROGRAMS: the point, the products. -/
namespace Go.Proofs.Wk
open Go.RowKit Mt

theorem Nms.base {W : World} {a b : Nat} {v : Value} {l : List Rat} (h : Nms W b v l) (hab : a ≤ b) : Nms W a v l := by
  refine ⟨h.1, ?_⟩
  rcases h.2 with q | ⟨g, cap, cur, e1, e2, r⟩
  · exact .inl q
  · exact .inr ⟨g, cap, cur, e1, Nat.le_trans hab e2, r⟩
set_option maxRecDepth 100000 in
set_option linter.unusedSimpArgs false in
set_option maxHeartbeats 4000000 in
theorem point_c {w0 W : World} (hg : Good w0) {ad : Nat → Nat} {cr cb : Nat} {t : Lp.Tab} (ht : Lp.SmT t) (h : TB w0 ad cr cb W (tX t) t.bas) :
    Calls Tryz.prog 76 #[.pointer (some ⟨ad 10, 0, none⟩)] W (NmP W (Lp.ptS t 4)) := by
  have HT := Lib.hid (fun W' (k : Below W.heap.size W W') => h.later k)
  have HBS := Lib.hid ht.bas
  have HSM := Lib.hid (Lp.allS_sm ht 6 (Nat.le_refl _))
  have q0 : (W.alloc (.cells #[.string ⟨#[48]⟩] 27)).drew.cell? ⟨W.heap.size, 0, none⟩ = some ((Value.string ⟨(rtoa 0).toArray⟩)) := by rw [rtoa_zero]; exact one_cell (heap_alloc_new W (.cells #[.string ⟨#[48]⟩] 27))
  have hA := lal W (.cells #[.string ⟨#[48]⟩] 27)
  have HWD := Lib.hid (pwidth_c (h.later hA))
  clear h ht
  go_enter Tryz.func76, Tryz.ntmps76
  go_wp2_with fail
  ((with_reducible refine HWD.out.mono ?_); rintro en w2 ⟨rfl, rfl⟩)
  go_wp2_with fail
  ((with_reducible refine (rep15_c _ q0).mono ?_); rintro en w3 ⟨g, rfl, hgl, hgr, hb3⟩)
  have HB3 := Lib.hid (hA.drew.nxt hb3)
  have hgo : W.heap.size ≤ g := Nat.le_trans (show W.heap.size ≤ _ by simp [World.drew]) hgl
  have HG3 := Lib.hid (show w3.heap[g]? = some (.cells (rtC (Lp.allS t 0)) 27 (0, 0)) from hgr)
  obtain ⟨-, -, -, -, t4, -⟩ := (HT.out _ HB3.out).tcell
  clear HWD q0 hA hgl hgr hb3
  go_wp2_with fail
  clear t4
  go_loopw [17] (fun si wr => ∃ i : Nat, si = .int .i64 (i : Int) ∧ i ≤ 6 ∧ Hid (wr.heap[g]? = some (.cells (rtC (Lp.allS t i)) 27 (0, 0))) ∧ Hid (Below W.heap.size W wr)) (fun si _ => 6 - (intOf si).toNat)
  case atStart => exact ⟨0, rfl, Nat.zero_le _, HG3.out, HB3.out⟩
  case round =>
    obtain ⟨i, rfl, hi, hG, hB⟩ := hrel
    clear HG3 HB3
    by_cases hlt : i < 6
    · have bi := (HT.out _ hB.out).bcell hlt
      have hbl := HBS.out i hlt
      have HWD := Lib.hid (fun W' (b : Below wr.heap.size wr W') => pwidth_c (HT.out _ (hB.out.nxt b)))
      have HALL := Lib.hid (fun W' (b : Below wr.heap.size wr W') => by
        have T := HT.out _ (hB.out.nxt b)
        obtain ⟨-, -, -, t3, -, -⟩ := T.tcell
        have r2 := T.cell (show i < 7 by omega) (show 15 < 16 by omega)
        rw [tX_row t hlt] at r2
        exact (⟨t3, T.rcell hlt, r2⟩ : W'.cell? ⟨ad 10, 3, none⟩ = some (.slice (some ⟨ad 8, 0, none⟩) 6 cr) ∧ W'.cell? ⟨ad 8, i, none⟩ = some (.slice (some ⟨ad i, 0, none⟩) 16 16) ∧ W'.cell? ⟨ad i, 15, none⟩ = some ((Value.string ⟨(rtoa (Lp.at_ (t.row i) 15)).toArray⟩))))
      have HST := Lib.hid (show (Lp.allS t i).set (t.bas i) (Lp.at_ (t.row i) 15) = Lp.allS t (i + 1) from rfl)
      have hlen := Lp.allS_len t i
      have i4 : (0 : Int) ≤ (i : Int) := by omega
      have i5 : (i : Int) < 6 := by omega
      have i6 : (0 : Int) ≤ (t.bas i : Int) := by omega
      have i7 : (t.bas i : Int) < 15 := by omega
      have hb0 := Below.refl wr.heap.size wr
      have f1 := frozen_of_row _ _ (t.bas i) _ _ hG.out
      have f2 := rowcell hG.out (show t.bas i < (Lp.allS t i).length by omega)
      obtain ⟨l2, hl2⟩ : ∃ z, Lp.allS t (i + 1) = z := ⟨_, rfl⟩
      rw [hl2] at HST
      have HL2 := Lib.hid hl2
      clear hl2
      generalize Lp.at_ (t.row i) 15 = x at *
      generalize Lp.allS t i = l at *
      generalize t.bas i = c at *
      go_wp2_with fail
      clear bi
      refine Go.Front.wp_region_front (S := fun V => V.cell? ⟨ad 10, 3, none⟩ = some (.slice (some ⟨ad 8, 0, none⟩) 6 cr) ∧ V.cell? ⟨ad 8, i, none⟩ = some (.slice (some ⟨ad i, 0, none⟩) 16 16) ∧ V.cell? ⟨ad i, 15, none⟩ = some (.string ⟨(rtoa x).toArray⟩)) 13 (by kernel_rfl) (by simp) (by kernel_rfl) (by kernel_rfl) (by kernel_rfl) (by kernel_rfl) ?_ (fun hHeld => ?_)
      · (first | with_reducible exact HALL.out _ hb0.drew.drew | with_reducible exact HALL.out _ hb0.drew)
      simp only [List.take_succ_cons, List.take_zero, List.drop_succ_cons, List.drop_zero]
      refine wpAnyH_take (i := 0) (v := ?_) rfl (by kernel_rfl) (by kernel_rfl) (by kernel_rfl) (fun _ _ _ h => h) (Or.inl ⟨by rfl, ?_⟩) hHeld ?_
      rotate_left
      · intro W hSw; (try dsimp only at hSw); go_simp <;> with_reducible rfl
      (try simp only [Act.put, List.setIfInBounds_toArray, List.set_cons_zero, List.set_cons_succ])
      refine wpAnyH_take (i := 1) (v := ?_) rfl (by kernel_rfl) (by kernel_rfl) (by kernel_rfl) (fun _ _ _ h => h) (Or.inl ⟨by rfl, ?_⟩) hHeld ?_
      rotate_left
      · intro W hSw; (try dsimp only at hSw); go_simp <;> with_reducible rfl
      (try simp only [Act.put, List.setIfInBounds_toArray, List.set_cons_zero, List.set_cons_succ])
      refine wpAnyH_take (i := 2) (v := ?_) rfl (by kernel_rfl) (by kernel_rfl) (by kernel_rfl) (fun _ _ _ h => h) (Or.inl ⟨by rfl, ?_⟩) hHeld ?_
      rotate_left
      · intro W hSw; (try dsimp only at hSw); go_simp <;> with_reducible rfl
      (try simp only [Act.put, List.setIfInBounds_toArray, List.set_cons_zero, List.set_cons_succ])
      refine wpAnyH_take (i := 3) (v := ?_) rfl (by kernel_rfl) (by kernel_rfl) (by kernel_rfl) (fun _ _ _ h => h) (Or.inl ⟨by rfl, ?_⟩) hHeld ?_
      rotate_left
      · intro W hSw; (try dsimp only at hSw); go_simp <;> with_reducible rfl
      (try simp only [Act.put, List.setIfInBounds_toArray, List.set_cons_zero, List.set_cons_succ])
      refine wpAnyH_take (i := 4) (v := ?_) rfl (by kernel_rfl) (by kernel_rfl) (by kernel_rfl) (fun _ _ _ h => h) (Or.inl ⟨by rfl, ?_⟩) hHeld ?_
      rotate_left
      · intro W hSw; (try dsimp only at hSw); go_simp <;> with_reducible rfl
      (try simp only [Act.put, List.setIfInBounds_toArray, List.set_cons_zero, List.set_cons_succ])
      refine wpAnyH_take (i := 5) (v := ?_) rfl (by kernel_rfl) (by kernel_rfl) (by kernel_rfl) (fun _ _ _ h => h) (Or.inl ⟨by rfl, ?_⟩) hHeld ?_
      rotate_left
      · intro W hSw; (try dsimp only at hSw); go_simp <;> with_reducible rfl
      (try simp only [Act.put, List.setIfInBounds_toArray, List.set_cons_zero, List.set_cons_succ])
      refine wpAnyH_take (i := 6) (v := ?_) rfl (by kernel_rfl) (by kernel_rfl) (by kernel_rfl) (fun _ _ _ h => h) (Or.inl ⟨by rfl, ?_⟩) hHeld ?_
      rotate_left
      · intro W hSw; (try dsimp only at hSw); go_simp <;> with_reducible rfl
      (try simp only [Act.put, List.setIfInBounds_toArray, List.set_cons_zero, List.set_cons_succ])
      refine wpAnyH_take (i := 7) (v := ?_) rfl (by kernel_rfl) (by kernel_rfl) (by kernel_rfl) (fun _ _ _ h => h) (Or.inl ⟨by rfl, ?_⟩) hHeld ?_
      rotate_left
      · intro W hSw; (try dsimp only at hSw); go_simp <;> with_reducible rfl
      (try simp only [Act.put, List.setIfInBounds_toArray, List.set_cons_zero, List.set_cons_succ])
      refine wpAnyH_take (i := 8) (v := ?_) rfl (by kernel_rfl) (by kernel_rfl) (by kernel_rfl) (fun _ _ _ h => h) (Or.inl ⟨by rfl, ?_⟩) hHeld ?_
      rotate_left
      · intro W hSw; (try dsimp only at hSw); go_simp <;> with_reducible rfl
      (try simp only [Act.put, List.setIfInBounds_toArray, List.set_cons_zero, List.set_cons_succ])
      refine wpAnyH_take (i := 9) (v := ?_) rfl (by kernel_rfl) (by kernel_rfl) (by kernel_rfl) (fun _ _ _ h => h) (Or.inl ⟨by rfl, ?_⟩) hHeld ?_
      rotate_left
      · intro W hSw; (try dsimp only at hSw); go_simp <;> with_reducible rfl
      (try simp only [Act.put, List.setIfInBounds_toArray, List.set_cons_zero, List.set_cons_succ])
      refine wpAnyH_ready (rs := [10]) (by kernel_rfl) (by simp) ?_
      refine AllReadyH.cons rfl (fun K hK => ?_) AllReadyH.nil
      go_simp
      ((with_reducible refine (HWD.out _ hb0.drew).mono ?_); rintro en w2 ⟨rfl, rfl⟩; go_simp)
      refine hK.out _ _ ?_ (fun hHeld => ?_)
      · ((try dsimp only); first | with_reducible exact HALL.out _ hb0.drew.drew | with_reducible exact HALL.out _ hb0.drew)
      clear hK K
      (try simp only [Act.put, List.setIfInBounds_toArray, List.set_cons_zero, List.set_cons_succ])
      refine wpAnyH_take (i := 11) (v := ?_) rfl (by kernel_rfl) (by kernel_rfl) (by kernel_rfl) (fun _ _ _ h => h) (Or.inl ⟨by rfl, ?_⟩) hHeld ?_
      rotate_left
      · intro W hSw; (try dsimp only at hSw); go_simp <;> with_reducible rfl
      (try simp only [Act.put, List.setIfInBounds_toArray, List.set_cons_zero, List.set_cons_succ])
      refine wpAnyH_take (i := 12) (v := ?_) rfl (by kernel_rfl) (by kernel_rfl) (by kernel_rfl) (fun _ _ _ h => h) (Or.inl ⟨by rfl, ?_⟩) hHeld ?_
      rotate_left
      · intro W hSw; (try dsimp only at hSw); go_simp <;> with_reducible rfl
      (try simp only [Act.put, List.setIfInBounds_toArray, List.set_cons_zero, List.set_cons_succ])
      refine wpAnyH_done (by kernel_rfl) ?_ _
      show wpList _ _ _ _ _ _
      have HG5 := Lib.hid (rowset hG.out c x)
      rw [HST.out] at HG5
      have HB5 := Lib.hid (Below.setc hB.out hgo c ((Value.string ⟨(rtoa x).toArray⟩)))
      clear HALL HWD hHeld hb0 hG hB HT HBS HSM
      go_wp2
      go_roundw
      case rel => exact ⟨i + 1, by go_num, by omega, by rw [HL2.out]; exact HG5.out, HB5.out.drew.drew⟩
      case measure => simp [intOf]; omega
    · obtain rfl : i = 6 := by omega
      rw [show ((6 : Nat) : Int) = 6 from rfl]
      have hgl : g < wr.heap.size := (Array.getElem?_eq_some_iff.1 hG.out).1
      have HG := Lib.hid (fun W' (b : Below wr.heap.size wr W') => keepB hG.out b)
      have HT2 := Lib.hid (fun W' (b : Below wr.heap.size wr W') => HT.out _ (hB.out.nxt b))
      have HB2 := hB
      obtain ⟨wo, hwo⟩ : ∃ x, x = wr := ⟨_, rfl⟩
      rw [← hwo] at HG HT2 HB2 ⊢
      clear hG hB HT hgl hwo
      obtain ⟨-, t1, -, -, -, -⟩ := (HT2.out _ (Below.refl _ _)).tcell
      go_wp2_with fail
      clear t1
      go_loopw [6, 41] (fun sv sk wr => ∃ k : Nat, sk = .int .i64 (k : Int) ∧ k ≤ 4 ∧ Hid (Nms wr wo.heap.size sv (Lp.ptS t k)) ∧ Hid (Below wo.heap.size wo wr)) (fun _ sk _ => 4 - (intOf sk).toNat)
      case atStart => exact ⟨0, rfl, Nat.zero_le _, ⟨rfl, .inl ⟨rfl, rfl⟩⟩, Below.refl _ _⟩
      case round =>
        obtain ⟨k, rfl, hk, hN, hB⟩ := hrel
        by_cases hlt : k < 4
        · have HSB := Lib.hid (fun W' (b : Below wr.heap.size wr W') => lsub_c (sm_sz (HSM.out k (by omega))) (sm_sz (HSM.out (4 + k) (by omega))) (by omega) W' ((HT2.out _ (hB.out.nxt b)).good hg))
          have HOF := Lib.hid (fun (a : Txt) W' (b : Below wr.heap.size wr W') => pof_c a (ad 9) W' (HT2.out _ (hB.out.nxt b)).sum)
          have HST := Lib.hid (Lp.ptS_step t k)
          have hlen : (Lp.ptS t k).length = k := by simp [Lp.ptS]
          have i6 : (0 : Int) ≤ (k : Int) := by omega
          have i7 : (k : Int) < 15 := by omega
          have i8 : (0 : Int) ≤ 4 + (k : Int) := by omega
          have i9 : 4 + (k : Int) < 15 := by omega
          have i10 : (4 + (k : Int)).toNat = 4 + k := by omega
          have w9 : IntKind.i64.wrap (4 + (k : Int)) = 4 + (k : Int) := by rw [IntKind.wrap_i64]; omega
          have HALL := Lib.hid (fun (W' : World) (b : Below wr.heap.size wr W') => by
            obtain ⟨t0, t1, -, -, -, -⟩ := (HT2.out _ (hB.out.nxt b)).tcell
            have hr := HG.out _ (hB.out.nxt b)
            exact (⟨t0, t1, rowcell hr (by rw [Lp.allS_len]; omega), rowcell hr (by rw [Lp.allS_len]; omega)⟩ : W'.cell? ⟨ad 10, 0, none⟩ = some (.pointer (some ⟨ad 9, 0, none⟩)) ∧ W'.cell? ⟨ad 10, 1, none⟩ = some (.int .i64 4) ∧ W'.cell? ⟨g, k, none⟩ = some ((Value.string ⟨(rtoa (Lp.at_ (Lp.allS t 6) k)).toArray⟩)) ∧ W'.cell? ⟨g, 4 + k, none⟩ = some ((Value.string ⟨(rtoa (Lp.at_ (Lp.allS t 6) (4 + k))).toArray⟩))))
          have hb0 := Below.refl wr.heap.size wr
          obtain ⟨l2, hl2⟩ : ∃ z, Lp.ptS t (k + 1) = z := ⟨_, rfl⟩
          rw [hl2] at HST
          have HL2 := Lib.hid hl2
          clear hl2 HG HT2
          generalize Lp.at_ (Lp.allS t 6) k = xa at *
          generalize Lp.at_ (Lp.allS t 6) (4 + k) = xb at *
          generalize Lp.ptS t k = l at *
          go_wp2_with fail
          refine Go.Front.wp_region_front (S := fun V => V.cell? ⟨ad 10, 0, none⟩ = some (.pointer (some ⟨ad 9, 0, none⟩)) ∧ V.cell? ⟨ad 10, 1, none⟩ = some (.int .i64 4) ∧ V.cell? ⟨g, k, none⟩ = some (.string ⟨(rtoa xa).toArray⟩) ∧ V.cell? ⟨g, 4 + k, none⟩ = some (.string ⟨(rtoa xb).toArray⟩)) 23 (by kernel_rfl) (by simp) (by kernel_rfl) (by kernel_rfl) (by kernel_rfl) (by kernel_rfl) ?_ (fun hHeld => ?_)
          · (first | with_reducible exact HALL.out _ B4 | with_reducible exact HALL.out _ B3 | with_reducible exact HALL.out _ B2 | with_reducible exact HALL.out _ hb0.drew)
          simp only [List.take_succ_cons, List.take_zero, List.drop_succ_cons, List.drop_zero]
          refine wpAnyH_take (i := 0) (v := ?_) rfl (by kernel_rfl) (by kernel_rfl) (by kernel_rfl) (fun _ _ _ h => h) (Or.inl ⟨by rfl, ?_⟩) hHeld ?_
          rotate_left
          · intro W hSw; (try dsimp only at hSw); go_simp <;> with_reducible rfl
          (try simp only [Act.put, List.setIfInBounds_toArray, List.set_cons_zero, List.set_cons_succ])
          refine wpAnyH_take (i := 1) (v := ?_) rfl (by kernel_rfl) (by kernel_rfl) (by kernel_rfl) (fun _ _ _ h => h) (Or.inl ⟨by rfl, ?_⟩) hHeld ?_
          rotate_left
          · intro W hSw; (try dsimp only at hSw); go_simp <;> with_reducible rfl
          (try simp only [Act.put, List.setIfInBounds_toArray, List.set_cons_zero, List.set_cons_succ])
          refine wpAnyH_take (i := 2) (v := ?_) rfl (by kernel_rfl) (by kernel_rfl) (by kernel_rfl) (fun _ _ _ h => h) (Or.inl ⟨by rfl, ?_⟩) hHeld ?_
          rotate_left
          · intro W hSw; (try dsimp only at hSw); go_simp <;> with_reducible rfl
          (try simp only [Act.put, List.setIfInBounds_toArray, List.set_cons_zero, List.set_cons_succ])
          refine wpAnyH_take (i := 3) (v := ?_) rfl (by kernel_rfl) (by kernel_rfl) (by kernel_rfl) (fun _ _ _ h => h) (Or.inl ⟨by rfl, ?_⟩) hHeld ?_
          rotate_left
          · intro W hSw; (try dsimp only at hSw); go_simp <;> with_reducible rfl
          (try simp only [Act.put, List.setIfInBounds_toArray, List.set_cons_zero, List.set_cons_succ])
          refine wpAnyH_take (i := 4) (v := ?_) rfl (by kernel_rfl) (by kernel_rfl) (by kernel_rfl) (fun _ _ _ h => h) (Or.inl ⟨by rfl, ?_⟩) hHeld ?_
          rotate_left
          · intro W hSw; (try dsimp only at hSw); go_simp <;> with_reducible rfl
          (try simp only [Act.put, List.setIfInBounds_toArray, List.set_cons_zero, List.set_cons_succ])
          refine wpAnyH_take (i := 5) (v := ?_) rfl (by kernel_rfl) (by kernel_rfl) (by kernel_rfl) (fun _ _ _ h => h) (Or.inl ⟨by rfl, ?_⟩) hHeld ?_
          rotate_left
          · intro W hSw; (try dsimp only at hSw); go_simp <;> with_reducible rfl
          (try simp only [Act.put, List.setIfInBounds_toArray, List.set_cons_zero, List.set_cons_succ])
          refine wpAnyH_take (i := 6) (v := ?_) rfl (by kernel_rfl) (by kernel_rfl) (by kernel_rfl) (fun _ _ _ h => h) (Or.inl ⟨by rfl, ?_⟩) hHeld ?_
          rotate_left
          · intro W hSw; (try dsimp only at hSw); go_simp <;> with_reducible rfl
          (try simp only [Act.put, List.setIfInBounds_toArray, List.set_cons_zero, List.set_cons_succ])
          refine wpAnyH_take (i := 7) (v := ?_) rfl (by kernel_rfl) (by kernel_rfl) (by kernel_rfl) (fun _ _ _ h => h) (Or.inl ⟨by rfl, ?_⟩) hHeld ?_
          rotate_left
          · intro W hSw; (try dsimp only at hSw); go_simp <;> with_reducible rfl
          (try simp only [Act.put, List.setIfInBounds_toArray, List.set_cons_zero, List.set_cons_succ])
          refine wpAnyH_take (i := 8) (v := ?_) rfl (by kernel_rfl) (by kernel_rfl) (by kernel_rfl) (fun _ _ _ h => h) (Or.inl ⟨by rfl, ?_⟩) hHeld ?_
          rotate_left
          · intro W hSw; (try dsimp only at hSw); go_simp <;> with_reducible rfl
          (try simp only [Act.put, List.setIfInBounds_toArray, List.set_cons_zero, List.set_cons_succ])
          refine wpAnyH_take (i := 9) (v := ?_) rfl (by kernel_rfl) (by kernel_rfl) (by kernel_rfl) (fun _ _ _ h => h) (Or.inl ⟨by rfl, ?_⟩) hHeld ?_
          rotate_left
          · intro W hSw; (try dsimp only at hSw); go_simp <;> with_reducible rfl
          (try simp only [Act.put, List.setIfInBounds_toArray, List.set_cons_zero, List.set_cons_succ])
          refine wpAnyH_take (i := 10) (v := ?_) rfl (by kernel_rfl) (by kernel_rfl) (by kernel_rfl) (fun _ _ _ h => h) (Or.inl ⟨by rfl, ?_⟩) hHeld ?_
          rotate_left
          · intro W hSw; (try dsimp only at hSw); go_simp <;> with_reducible rfl
          (try simp only [Act.put, List.setIfInBounds_toArray, List.set_cons_zero, List.set_cons_succ])
          refine wpAnyH_take (i := 11) (v := ?_) rfl (by kernel_rfl) (by kernel_rfl) (by kernel_rfl) (fun _ _ _ h => h) (Or.inl ⟨by rfl, ?_⟩) hHeld ?_
          rotate_left
          · intro W hSw; (try dsimp only at hSw); go_simp <;> with_reducible rfl
          (try simp only [Act.put, List.setIfInBounds_toArray, List.set_cons_zero, List.set_cons_succ])
          refine wpAnyH_take (i := 12) (v := ?_) rfl (by kernel_rfl) (by kernel_rfl) (by kernel_rfl) (fun _ _ _ h => h) (Or.inl ⟨by rfl, ?_⟩) hHeld ?_
          rotate_left
          · intro W hSw; (try dsimp only at hSw); go_simp <;> with_reducible rfl
          (try simp only [Act.put, List.setIfInBounds_toArray, List.set_cons_zero, List.set_cons_succ])
          refine wpAnyH_take (i := 13) (v := ?_) rfl (by kernel_rfl) (by kernel_rfl) (by kernel_rfl) (fun _ _ _ h => h) (Or.inl ⟨by rfl, ?_⟩) hHeld ?_
          rotate_left
          · intro W hSw; (try dsimp only at hSw); go_simp <;> with_reducible rfl
          (try simp only [Act.put, List.setIfInBounds_toArray, List.set_cons_zero, List.set_cons_succ])
          refine wpAnyH_take (i := 14) (v := ?_) rfl (by kernel_rfl) (by kernel_rfl) (by kernel_rfl) (fun _ _ _ h => h) (Or.inl ⟨by rfl, ?_⟩) hHeld ?_
          rotate_left
          · intro W hSw; (try dsimp only at hSw); go_simp <;> with_reducible rfl
          (try simp only [Act.put, List.setIfInBounds_toArray, List.set_cons_zero, List.set_cons_succ])
          refine wpAnyH_take (i := 15) (v := ?_) rfl (by kernel_rfl) (by kernel_rfl) (by kernel_rfl) (fun _ _ _ h => h) (Or.inl ⟨by rfl, ?_⟩) hHeld ?_
          rotate_left
          · intro W hSw; (try dsimp only at hSw); go_simp <;> with_reducible rfl
          (try simp only [Act.put, List.setIfInBounds_toArray, List.set_cons_zero, List.set_cons_succ])
          refine wpAnyH_take (i := 16) (v := ?_) rfl (by kernel_rfl) (by kernel_rfl) (by kernel_rfl) (fun _ _ _ h => h) (Or.inl ⟨by rfl, ?_⟩) hHeld ?_
          rotate_left
          · intro W hSw; (try dsimp only at hSw); go_simp <;> with_reducible rfl
          (try simp only [Act.put, List.setIfInBounds_toArray, List.set_cons_zero, List.set_cons_succ])
          refine wpAnyH_take (i := 17) (v := ?_) rfl (by kernel_rfl) (by kernel_rfl) (by kernel_rfl) (fun _ _ _ h => h) (Or.inl ⟨by rfl, ?_⟩) hHeld ?_
          rotate_left
          · intro W hSw; (try dsimp only at hSw); go_simp <;> with_reducible rfl
          (try simp only [Act.put, List.setIfInBounds_toArray, List.set_cons_zero, List.set_cons_succ])
          refine wpAnyH_ready (rs := [18]) (by kernel_rfl) (by simp) ?_
          refine AllReadyH.cons rfl (fun K hK => ?_) AllReadyH.nil
          go_simp
          ((with_reducible refine (HSB.out _ hb0.drew).mono ?_); rintro en w2 ⟨rfl, hb2⟩; have B2 := hb0.drew.nxt hb2; go_simp)
          refine hK.out _ _ ?_ (fun hHeld => ?_)
          · ((try dsimp only); first | with_reducible exact HALL.out _ B4 | with_reducible exact HALL.out _ B3 | with_reducible exact HALL.out _ B2 | with_reducible exact HALL.out _ hb0.drew)
          clear hK K
          (try simp only [Act.put, List.setIfInBounds_toArray, List.set_cons_zero, List.set_cons_succ])
          refine wpAnyH_take (i := 19) (v := ?_) rfl (by kernel_rfl) (by kernel_rfl) (by kernel_rfl) (fun _ _ _ h => h) (Or.inl ⟨by rfl, ?_⟩) hHeld ?_
          rotate_left
          · intro W hSw; (try dsimp only at hSw); go_simp <;> with_reducible rfl
          (try simp only [Act.put, List.setIfInBounds_toArray, List.set_cons_zero, List.set_cons_succ])
          refine wpAnyH_take (i := 20) (v := ?_) rfl (by kernel_rfl) (by kernel_rfl) (by kernel_rfl) (fun _ _ _ h => h) (Or.inl ⟨by rfl, ?_⟩) hHeld ?_
          rotate_left
          · intro W hSw; (try dsimp only at hSw); go_simp <;> with_reducible rfl
          (try simp only [Act.put, List.setIfInBounds_toArray, List.set_cons_zero, List.set_cons_succ])
          refine wpAnyH_ready (rs := [21]) (by kernel_rfl) (by simp) ?_
          refine AllReadyH.cons rfl (fun K hK => ?_) AllReadyH.nil
          go_simp
          ((with_reducible refine (HOF.out _ _ B2).mono ?_); rintro en w3 ⟨rfl, hb3⟩; have B3 := B2.nxt hb3; have B4 := B3.nxt (lal w3 (.cells #[Value.string ⟨(rtoa (xa - xb)).toArray⟩] 27)))
          refine hK.out _ _ ?_ (fun hHeld => ?_)
          · ((try dsimp only); first | with_reducible exact HALL.out _ B4 | with_reducible exact HALL.out _ B3 | with_reducible exact HALL.out _ B2 | with_reducible exact HALL.out _ hb0.drew)
          clear hK K
          (try simp only [Act.put, List.setIfInBounds_toArray, List.set_cons_zero, List.set_cons_succ])
          refine wpAnyH_ready (rs := [22]) (by kernel_rfl) (by simp) ?_
          refine AllReadyH.cons rfl (fun K hK => ?_) AllReadyH.nil
          go_simp
          refine hK.out _ _ ?_ (fun hHeld => ?_)
          · ((try dsimp only); first | with_reducible exact HALL.out _ B4 | with_reducible exact HALL.out _ B3 | with_reducible exact HALL.out _ B2 | with_reducible exact HALL.out _ hb0.drew)
          clear hK K
          (try simp only [Act.put, List.setIfInBounds_toArray, List.set_cons_zero, List.set_cons_succ])
          refine wpAnyH_done (by kernel_rfl) ?_ _
          show wpList _ _ _ _ _ _
          refine wpList_app1 (by rfl) _ _ 64 27 (by rfl) Tryz.underlying64 (.string ⟨#[]⟩) 16 (by decide) infoQ rfl wo.heap.size _ l.length (l.map rtF) (by rfl) (hN.out.later B4) w3.heap.size ((Value.string ⟨(rtoa (xa - xb)).toArray⟩)) (by rfl) (one_cell (heap_alloc_new w3 _)) rfl (by omega) (hB.out.nxt B4).size ?_
          intro v5 w5 ho5 hg5
          have HB5 := Lib.hid (own_below (hB.out.nxt B4) (hB.out.nxt B4).size (hN.out.later B4) (Nat.le_refl _) hg5)
          have HN5 := Lib.hid (Nms.push ho5)
          rw [← HST.out] at HN5
          clear HALL HSB HOF hHeld B2 B3 B4 hb2 hb3 hN hB ho5 hg5 hb0
          go_wp2
          go_roundw
          case rel => exact ⟨k + 1, by go_num, by omega, by rw [HL2.out]; exact HN5.out, HB5.out⟩
          case measure => simp [intOf]; omega
        · obtain rfl : k = 4 := by omega
          rw [show ((4 : Nat) : Int) = 4 from rfl]
          have hBA := HB2.out.nxt hB.out
          clear HT2 HG HSM HBS
          go_wp2
          go_ret
          exact ⟨_, rfl, hN.out.base HB2.out.size, hBA⟩
theorem z_lit : (Value.string ⟨#[48]⟩) = (Value.string ⟨(rtoa 0).toArray⟩) := by rw [rtoa_zero]
set_option maxRecDepth 100000 in
set_option linter.unusedSimpArgs false in
set_option maxHeartbeats 4000000 in
theorem dot_c {W : World} (hg : Good W) {gs ga gb ca cb : Nat} {a b : List Rat} (hs : PgS W gs) (hA : Num4 W ga a) (hB : Num4 W gb b) (sa : ∀ k, k < 4 → Lp.sm (Lp.at_ a k) = true) (sb : ∀ k, k < 4 → Lp.sm (Lp.at_ b k) = true)
    (sp : ∀ k, k < 4 → Lp.sm (Lp.at_ a k * Lp.at_ b k) = true) (sd : ∀ k, k < 4 → Lp.sm (Lp.dotS a b k) = true) :
    Calls Tryz.prog 78 #[.pointer (some ⟨gs, 0, none⟩), .slice (some ⟨ga, 0, none⟩) 4 ca, .slice (some ⟨gb, 0, none⟩) 4 cb] W (Ret W ((Value.string ⟨(rtoa (Lp.dotS a b 4)).toArray⟩))) := by
  have HS := Lib.hid (fun (q : Txt) W' (k : Below W.heap.size W W') => pof_c q gs W' (hs.later k))
  have HA := Lib.hid (fun W' (k : Below W.heap.size W W') => hA.later k)
  have HB := Lib.hid (fun W' (k : Below W.heap.size W W') => hB.later k)
  have HSA := Lib.hid sa
  have HSB := Lib.hid sb
  have HSP := Lib.hid sp
  have HSD := Lib.hid sd
  clear hs hA hB sa sb sp sd
  go_enter Tryz.func78, Tryz.ntmps78
  go_wp2_with fail
  go_loopw [7, 12] (fun st si wr => ∃ k : Nat, si = .int .i64 (k : Int) ∧ k ≤ 4 ∧ st = (Value.string ⟨(rtoa (Lp.dotS a b k)).toArray⟩) ∧ Hid (Below W.heap.size W wr)) (fun _ si _ => 4 - (intOf si).toNat)
  case atStart => exact ⟨0, rfl, Nat.zero_le _, z_lit, Below.refl _ _⟩
  case round =>
    obtain ⟨k, rfl, hk, rfl, hB⟩ := hrel
    by_cases hlt : k < 4
    · have c1 := HA.out _ hB.out k hlt
      have c2 := HB.out _ hB.out k hlt
      have i6 : (0 : Int) ≤ (k : Int) := by omega
      have i7 : (k : Int) < 4 := by omega
      have zb := zer_is (q := Lp.at_ a k)
      have zc := zer_is (q := Lp.at_ b k)
      have hst : Lp.dotS a b (k + 1) = Lp.dotS a b k + Lp.at_ a k * Lp.at_ b k := rfl
      by_cases b0 : Lp.at_ a k = 0
      · rw [decide_eq_true b0] at zb
        have HST := Lib.hid (show Lp.dotS a b (k + 1) = Lp.dotS a b k by rw [hst, b0, Rat.zero_mul, Rat.add_zero])
        clear hst b0 zc HS HA HB HSA HSB HSP HSD
        generalize Lp.at_ a k = x at *
        generalize Lp.at_ b k = y at *
        go_wp2
        go_roundw
        case rel => exact ⟨k + 1, by go_num, by omega, by rw [HST.out], hB.out⟩
        case measure => simp [intOf]; omega
      · rw [decide_eq_false b0] at zb
        by_cases c0 : Lp.at_ b k = 0
        · rw [decide_eq_true c0] at zc
          have HST := Lib.hid (show Lp.dotS a b (k + 1) = Lp.dotS a b k by rw [hst, c0, Rat.mul_zero, Rat.add_zero])
          clear hst b0 c0 HS HA HB HSA HSB HSP HSD
          generalize Lp.at_ a k = x at *
          generalize Lp.at_ b k = y at *
          go_wp2
          go_roundw
          case rel => exact ⟨k + 1, by go_num, by omega, by rw [HST.out], hB.out⟩
          case measure => simp [intOf]; omega
        · rw [decide_eq_false c0] at zc
          have HM := Lib.hid (lmul_c (sm_sz (HSA.out k hlt)) (sm_sz (HSB.out k hlt)) (by omega) wr (hg.later hB.out))
          have HAD := Lib.hid (fun W' (h : Below wr.heap.size wr W') => ladd_c (sm_sz (HSD.out k hlt)) (sm_sz (HSP.out k hlt)) (by omega) W' (hg.later (hB.out.nxt h)))
          have HO := Lib.hid (fun (q : Txt) W' (h : Below wr.heap.size wr W') => HS.out q W' (hB.out.nxt h))
          have HST := Lib.hid hst
          clear hst b0 c0 HS HA HB HSA HSB HSP HSD
          have hb0 := Below.refl wr.heap.size wr
          generalize Lp.at_ a k = x at *
          generalize Lp.at_ b k = y at *
          generalize Lp.dotS a b k = d at *
          go_wp2_with fail
          ((with_reducible refine HM.out.mono ?_); rintro en w1 ⟨rfl, hb1⟩)
          go_wp2_with fail
          ((with_reducible refine (HO.out _ _ hb1).mono ?_); rintro en w2 ⟨rfl, hb2⟩)
          have hB2 := hb1.nxt hb2
          go_wp2_with fail
          ((with_reducible refine (HAD.out _ hB2).mono ?_); rintro en w3 ⟨rfl, hb3⟩)
          have hB3 := hB2.nxt hb3
          go_wp2_with fail
          ((with_reducible refine (HO.out _ _ hB3).mono ?_); rintro en w4 ⟨rfl, hb4⟩)
          have HB4 := Lib.hid (hB.out.nxt (hB3.nxt hb4))
          clear HM HAD HO hb0 hb1 hb2 hB2 hb3 hB3 hb4
          go_wp2
          go_roundw
          case rel => exact ⟨k + 1, by go_num, by omega, by rw [HST.out], HB4.out⟩
          case measure => simp [intOf]; omega
    · obtain rfl : k = 4 := by omega
      rw [show ((4 : Nat) : Int) = 4 from rfl]
      clear HS HA HB HSA HSB HSP HSD
      go_wp2
      go_ret
      exact ⟨rfl, hB.out⟩
end Go.Proofs.Wk
/- LINEAR PROGRAMS: numbers and bounds, looked at. -/
namespace Go.Proofs.Wk
open Go.RowKit Mt

/-- The numbers of n slices. -/
def NumN (W : World) (h n : Nat) (g len cap : Nat → Nat) (q : Nat → Nat → Rat) : Prop :=
  ∀ i, i < n → W.cell? ⟨h, i, none⟩ = some (.slice (some ⟨g i, 0, none⟩) (len i) (cap i)) ∧ len i ≤ 4 ∧ ∀ k, k < len i → W.cell? ⟨g i, k, none⟩ = some ((Value.string ⟨(rtoa (q i k)).toArray⟩)) ∧ Lp.sm (q i k) = true
theorem NumN.later {W W' : World} {h n : Nat} {g len cap : Nat → Nat} {q : Nat → Nat → Rat} (hN : NumN W h n g len cap q) (hb : Below W.heap.size W W') : NumN W' h n g len cap q := fun i hi =>
  ⟨cellB (hN i hi).1 hb, (hN i hi).2.1, fun k hk => ⟨cellB ((hN i hi).2.2 k hk).1 hb, ((hN i hi).2.2 k hk).2⟩⟩
theorem lchk_c {q : Rat} (h : Lp.sm q = true) (W : World) (hg : Good W) : Calls Tryz.prog 33 #[Value.string ⟨(rtoa q).toArray⟩] W (Ret W (.int .i64 0)) := by
  have := qCheck_c (rtoa q) W hg (tlen ((sm_sz h).ok (by omega)))
  rwa [rchk_rtoa ((sm_sz h).ok (by omega))] at this
set_option maxRecDepth 100000 in
set_option linter.unusedSimpArgs false in
set_option maxHeartbeats 4000000 in
theorem numbers_c {W : World} (hg : Good W) {h n : Nat} (hn : n ≤ 2) {g len cap : Nat → Nat} {q : Nat → Nat → Rat} (hN : NumN W h n g len cap q) : Calls Tryz.prog 69 #[.slice (some ⟨h, 0, none⟩) n n] W (Ret W (.int .i64 0)) := by
  have HN := Lib.hid (fun W' (k : Below W.heap.size W W') => hN.later k)
  have HQ := Lib.hid (fun q (s : Lp.sm q = true) W' (k : Below W.heap.size W W') => lchk_c s W' (hg.later k))
  clear hN hg
  go_enter Tryz.func69, Tryz.ntmps69
  go_wp2_with fail
  go_loopw [10] (fun si wr => ∃ i : Nat, si = .int .i64 (i : Int) ∧ i ≤ n ∧ Hid (Below W.heap.size W wr)) (fun si _ => n - (intOf si).toNat)
  case atStart => exact ⟨0, rfl, Nat.zero_le _, Below.refl _ _⟩
  case round =>
    obtain ⟨i, rfl, hi, hB⟩ := hrel
    obtain ⟨wo, rfl⟩ : ∃ x, x = wr := ⟨_, rfl⟩
    by_cases hlt : i < n
    · obtain ⟨c0, hl, hc⟩ := HN.out _ hB.out i hlt
      have HC := Lib.hid (fun W' (k : Below W.heap.size W W') => (HN.out _ k i hlt).2.2)
      have i4 : (0 : Int) ≤ (i : Int) := by omega
      have i5 : (i : Int) < (n : Int) := by omega
      clear HN hc
      generalize g i = gi at *
      generalize len i = li at *
      generalize cap i = ci at *
      generalize q i = qi at *
      go_wp2_with fail
      clear c0
      go_loopw [16] (fun sk wr => ∃ k : Nat, sk = .int .i64 (k : Int) ∧ k ≤ li ∧ Hid (Below W.heap.size W wr)) (fun sk _ => li - (intOf sk).toNat)
      case atStart => exact ⟨0, rfl, Nat.zero_le _, hB.out⟩
      case round =>
        obtain ⟨k, rfl, hk, hB⟩ := hrel
        by_cases hlk : k < li
        · obtain ⟨c1, hs⟩ := HC.out _ hB.out k hlk
          have HQ1 := Lib.hid (HQ.out _ hs wr hB.out)
          have i6 : (0 : Int) ≤ (k : Int) := by omega
          have i7 : (k : Int) < (li : Int) := by omega
          clear HQ HC hs
          generalize qi k = x at *
          go_wp2_with fail
          ((with_reducible refine HQ1.out.mono ?_); rintro en w1 ⟨rfl, hb1⟩)
          have HB1 := Lib.hid (hB.out.nxt hb1)
          clear c1 HQ1 hb1
          go_wp2
          go_roundw
          case rel => exact ⟨k + 1, by go_num, by omega, HB1.out⟩
          case measure => simp [intOf]; omega
        · obtain rfl : k = li := by omega
          clear HQ HC
          go_wp2
          go_roundw
          case rel => exact ⟨i + 1, by go_num, by omega, hB.out⟩
          case measure => simp [intOf]; omega
    · obtain rfl : i = n := by omega
      clear HQ HN
      go_wp2
      go_ret
      exact ⟨rfl, hB.out⟩
theorem bx3L (W : World) (g n : Nat) (q : Rat) (T U V : TypeId) (W3 : World) (h3 : W3 = ((W.alloc (.cells #[.slice (some ⟨g, 0, none⟩) 4 4, Value.string ⟨(rtoa q).toArray⟩] T)).alloc (.cells #[Value.string ⟨(rtoa q).toArray⟩] U)).alloc (.cells #[.slice (some ⟨g, 0, none⟩) 4 4, .slice (some ⟨W.heap.size + 1, 0, none⟩) 1 1] V)) (hn : n = W.heap.size + 2) (x : Nat → Rat) (hx : ∀ k, k < 4 → W.cell? ⟨g, k, none⟩ = some ((Value.string ⟨(rtoa (x k)).toArray⟩)) ∧ Lp.sm (x k) = true) (hq : Lp.sm q = true) :
    Below W.heap.size W W3 ∧ NumN W3 n 2 (fun i => if i = 0 then g else W.heap.size + 1) (fun i => if i = 0 then 4 else 1) (fun i => if i = 0 then 4 else 1) (fun i k => if i = 0 then x k else q) := by
  have b1 := lal W (.cells #[.slice (some ⟨g, 0, none⟩) 4 4, Value.string ⟨(rtoa q).toArray⟩] T)
  have s1 : (W.alloc (.cells #[.slice (some ⟨g, 0, none⟩) 4 4, Value.string ⟨(rtoa q).toArray⟩] T)).heap.size = W.heap.size + 1 := by simp
  generalize W.alloc (.cells #[.slice (some ⟨g, 0, none⟩) 4 4, Value.string ⟨(rtoa q).toArray⟩] T) = W1 at *
  have b2 := lal W1 (.cells #[Value.string ⟨(rtoa q).toArray⟩] U)
  have h2 := heap_alloc_new W1 (.cells #[Value.string ⟨(rtoa q).toArray⟩] U)
  have s2 : (W1.alloc (.cells #[Value.string ⟨(rtoa q).toArray⟩] U)).heap.size = W1.heap.size + 1 := by simp
  generalize W1.alloc (.cells #[Value.string ⟨(rtoa q).toArray⟩] U) = W2 at *
  have b4 := lal W2 (.cells #[.slice (some ⟨g, 0, none⟩) 4 4, .slice (some ⟨W.heap.size + 1, 0, none⟩) 1 1] V)
  have h4 := heap_alloc_new W2 (.cells #[.slice (some ⟨g, 0, none⟩) 4 4, .slice (some ⟨W.heap.size + 1, 0, none⟩) 1 1] V)
  rw [← h3] at b4 h4
  rw [s1] at h2
  rw [s2, s1] at h4
  have bb := (b1.nxt b2).nxt b4
  refine ⟨bb, fun i hi => ?_⟩
  rcases (show i = 0 ∨ i = 1 by omega) with rfl | rfl
  · refine ⟨by rw [hn, cell_of_row _ _ _ _ _ _ h4]; rfl, by decide, fun k hk => ?_⟩
    have hk : k < 4 := hk
    exact ⟨cellB (hx k hk).1 bb, (hx k hk).2⟩
  · refine ⟨by rw [hn, cell_of_row _ _ _ _ _ _ h4]; rfl, by decide, fun k hk => ?_⟩
    obtain rfl : k = 0 := by have : k < 1 := hk; omega
    exact ⟨cellB (one_cell h2) b4, hq⟩
set_option maxRecDepth 100000 in
set_option linter.unusedSimpArgs false in
set_option maxHeartbeats 4000000 in
theorem check_c {w0 : World} (hg : Good w0) {gB off cap : Nat} {rb : Nat → Nat} {B : Nat → List Rat × Rat} (hB : Bds w0 gB off rb B) (hsm : ∀ i, i < 6 → ∀ k, k < 4 → Lp.sm (Lp.at_ (B i).1 k) = true) (hsb : ∀ i, i < 6 → Lp.sm (B i).2 = true) :
    Calls Tryz.prog 68 #[.int .i64 4, .slice (some ⟨gB, off, none⟩) 6 cap] w0 (Ret w0 (.int .i64 0)) := by
  have HB := Lib.hid (fun W (h : Below w0.heap.size w0 W) => hB.later h)
  have HSM := Lib.hid hsm
  have HSB := Lib.hid hsb
  have HG := Lib.hid (fun W (h : Below w0.heap.size w0 W) => hg.later h)
  clear hB hsm hg hsb
  go_enter Tryz.func68, Tryz.ntmps68
  go_wp2_with fail
  go_loopw [21] (fun si wr => ∃ i : Nat, si = .int .i64 (i : Int) ∧ i ≤ 6 ∧ Hid (Below w0.heap.size w0 wr)) (fun si _ => 6 - (intOf si).toNat)
  case atStart => exact ⟨0, rfl, Nat.zero_le _, Below.refl _ _⟩
  case round =>
    obtain ⟨i, rfl, hi, hB⟩ := hrel
    by_cases hlt : i < 6
    · obtain ⟨c0, c1, c2⟩ := HB.out _ hB.out i hlt
      have i4 : (0 : Int) ≤ (i : Int) := by omega
      have i5 : (i : Int) < 6 := by omega
      have HX := Lib.hid (fun n W3 h3 hn => bx3L wr (rb i) n (B i).2 96 27 64 W3 h3 hn (Lp.at_ (B i).1) (fun k hk => ⟨c2 k hk, HSM.out i hlt k hk⟩) (HSB.out i hlt))
      have HN := Lib.hid (fun n W3 (h : Below wr.heap.size wr W3) g len cap q (hN : NumN W3 n 2 g len cap q) => numbers_c (HG.out _ (hB.out.nxt h)) (Nat.le_refl 2) hN)
      clear c2 HB HSM HSB HG
      generalize Lp.at_ (B i).1 = bi at *
      generalize (B i).2 = x at *
      generalize rb i = ri at *
      go_wp2_with fail
      obtain ⟨hb3, hn3⟩ := HX.out _ _ rfl rfl
      ((with_reducible refine (HN.out _ _ hb3 _ _ _ _ hn3).mono ?_); rintro en w1 ⟨rfl, hb1⟩)
      have HB1 := Lib.hid (hB.out.nxt (hb3.nxt hb1))
      clear HX HN c0 c1 hb3 hn3 hb1
      go_wp2
      go_roundw
      case rel => exact ⟨i + 1, by go_num, by omega, HB1.out⟩
      case measure => simp [intOf]; omega
    · obtain rfl : i = 6 := by omega
      rw [show ((6 : Nat) : Int) = 6 from rfl]
      clear HB HSM HSB HG
      go_wp2
      go_ret
      exact ⟨rfl, hB.out⟩
end Go.Proofs.Wk
/- LINEAR PROGRAMS: the greatest value, walked. -/
namespace Go.Proofs.Wk
open Go.RowKit Mt

/-- The last table. -/
abbrev tE (t : Lp.Tab) (r : Nat) (G : List Rat) : Lp.Tab := Lp.itT 14 (Lp.aimed (rdy t r) G) 2
structure MoO (B : Nat → List Rat × Rat) (G : List Rat) (t : Lp.Tab) (r : Nat) : Prop where
  row : ∀ i, i < 7 → (if i = 6 then List.replicate 16 0 else rE B i) = tX t i
  bas : ∀ i, i < 6 → 8 + i = t.bas i
  smB : ∀ i, i < 6 → ∀ k, k < 4 → Lp.sm (Lp.at_ (B i).1 k) = true
  smM : ∀ i, i < 6 → Lp.sm (B i).2 = true
  rd : RdO t r
  sm1 : Lp.SmT (rdy t r)
  smG : ∀ k, k < 4 → Lp.sm (Lp.at_ G k) = true
  smA : ∀ i, i ≤ 6 → Lp.smL (Lp.aimT (rdy t r) (Lp.aimR G 4) i) = true
  ok : Lp.okN 14 (Lp.aimed (rdy t r) G) 2 = true
  smP : ∀ k, k < 4 → Lp.sm (Lp.at_ (Lp.ptS (tE t r G) 4) k) = true
  smQ : ∀ k, k < 4 → Lp.sm (Lp.at_ G k * Lp.at_ (Lp.ptS (tE t r G) 4) k) = true
  smD : ∀ k, k < 4 → Lp.sm (Lp.dotS G (Lp.ptS (tE t r G) 4) k) = true
theorem ptS_len (t : Lp.Tab) (k : Nat) : (Lp.ptS t k).length = k := by simp [Lp.ptS]
theorem wtS_len (t : Lp.Tab) (k : Nat) : (Lp.wtS t k).length = k := by simp [Lp.wtS]
theorem num1 (W : World) (g : Nat) (G : List Rat) (T : TypeId) (hN : Num4 W g G) (hs : ∀ k, k < 4 → Lp.sm (Lp.at_ G k) = true) : NumN (W.alloc (.cells #[.slice (some ⟨g, 0, none⟩) 4 4] T)) W.heap.size 1 (fun _ => g) (fun _ => 4) (fun _ => 4) (fun _ k => Lp.at_ G k) := fun i hi => by
  obtain rfl : i = 0 := by omega
  exact ⟨one_cell (heap_alloc_new W _), by decide, fun k hk => ⟨cellB (hN k hk) (lal W _), hs k hk⟩⟩
theorem results_four {fn : Func} {t u v x : Tmp} (h : fn.results = #[.tmp t, .tmp u, .tmp v, .tmp x]) (tmps : Array Value) (P : Program) (w : World) :
    (results fn tmps).run P w = .ok (.tuple #[tmps.getD t undef, tmps.getD u undef, tmps.getD v undef, tmps.getD x undef]) w := by simp [results, h]
def MoP (W : World) (v : Rat) (P Q : List Rat) (e : Ending) (W' : World) : Prop := ∃ p q, e = .returned (.tuple #[Value.string ⟨(rtoa v).toArray⟩, p, q, .int .i64 0]) ∧ Nms W' W.heap.size p P ∧ Nms W' W.heap.size q Q ∧ Below W.heap.size W W'
set_option maxRecDepth 100000 in
set_option linter.unusedSimpArgs false in
set_option maxHeartbeats 4000000 in
theorem most_c {W : World} (hg : Good W) {gB off cap gg : Nat} {rb : Nat → Nat} {B : Nat → List Rat × Rat} {G : List Rat} {t : Lp.Tab} {r : Nat} (ho : MoO B G t r) (hB : Bds W gB off rb B) (hN : Num4 W gg G) :
    Calls Tryz.prog 42 #[.int .i64 4, .slice (some ⟨gB, off, none⟩) 6 cap, .slice (some ⟨gg, 0, none⟩) 4 4] W (MoP W (Lp.dotS G (Lp.ptS (tE t r G) 4) 4) (Lp.ptS (tE t r G) 4) (Lp.wtS (tE t r G) 6)) := by
  have HO := Lib.hid ho
  have HB := Lib.hid (fun W' (h : Below W.heap.size W W') => hB.later h)
  have HN := Lib.hid (fun W' (h : Below W.heap.size W W') => hN.later h)
  have HG := Lib.hid (fun W' (h : Below W.heap.size W W') => hg.later h)
  have HC := Lib.hid (check_c (cap := cap) hg hB ho.smB ho.smM)
  clear hB hN hg ho
  obtain ⟨P, hP⟩ : ∃ z, Lp.ptS (tE t r G) 4 = z := ⟨_, rfl⟩
  obtain ⟨Q, hQ⟩ : ∃ z, Lp.wtS (tE t r G) 6 = z := ⟨_, rfl⟩
  rw [hP, hQ]
  have HPQ := Lib.hid (And.intro hP hQ)
  clear hP hQ
  go_enter Tryz.func42, Tryz.ntmps42
  go_wp2_with fail
  ((with_reducible refine HC.out.mono ?_); rintro en w1 ⟨rfl, hb1⟩)
  have hn1 := num1 w1 gg G 64 (HN.out _ hb1) HO.out.smG
  have hb2 := hb1.nxt (lal w1 (.cells #[.slice (some ⟨gg, 0, none⟩) 4 4] 64))
  clear HC
  go_wp2_with fail
  ((with_reducible refine (numbers_c (HG.out _ hb2) (by decide) hn1).mono ?_); rintro en w2 ⟨rfl, hb3⟩)
  have hb4 := hb2.nxt hb3
  clear hn1 hb1 hb2 hb3
  have HL := Lib.hid (laid_c (cap := cap) (HG.out _ hb4) (HB.out _ hb4) HO.out.smB)
  go_wp2_with fail
  ((with_reducible refine HL.out.mono ?_); rintro en w3 ⟨ad, cr, cb, rfl, T3⟩)
  have T3 := T3.congr HO.out.row HO.out.bas
  have hg2 := HG.out _ hb4
  have HR := Lib.hid (ready_c hg2 HO.out.rd T3)
  clear HL T3 HB
  go_wp2_with fail
  ((with_reducible refine HR.out.mono ?_); rintro en w4 ⟨rfl, T4, -⟩)
  clear HR
  have c4 := one_cell T4.sum
  obtain ⟨d4, -, -, -, -, -⟩ := T4.tcell
  have HA := Lib.hid (aim_c hg2 HO.out.sm1 T4 (HN.out _ hb4) HO.out.smG HO.out.smA)
  clear T4
  go_wp2_with fail
  ((with_reducible refine HA.out.mono ?_); rintro en w5 ⟨rfl, ad', h10, T5⟩)
  have HW := Lib.hid (pwidth_c T5)
  have HM := Lib.hid (climb2_c hg2 HO.out.ok T5.drew)
  rw [h10] at HW HM
  clear HA T5 c4 d4
  go_wp2_with fail
  ((with_reducible refine HW.out.mono ?_); rintro en w6 ⟨rfl, rfl⟩)
  go_wp2_with fail
  ((with_reducible refine HM.out.mono ?_); rintro en w7 ⟨rfl, T7, -⟩)
  have hs7 := (okN_is HO.out.ok).2.2
  have HP := Lib.hid (point_c hg2 hs7 T7)
  rw [h10] at HP
  clear HW HM
  go_wp2_with fail
  ((with_reducible refine HP.out.mono ?_); rintro en w8 ⟨p, rfl, N8, b8⟩)
  have HQ := Lib.hid (weights_c hg2 hs7 (T7.later b8))
  rw [h10] at HQ
  clear HP
  go_wp2_with fail
  ((with_reducible refine HQ.out.mono ?_); rintro en w9 ⟨q, rfl, N9, b9⟩)
  have T9 := (T7.later b8).later b9
  have c9 := one_cell T9.sum
  obtain ⟨d9, -, -, -, -, -⟩ := T9.tcell
  rw [h10] at d9
  have hb9 := hb4.nxt T9.bel
  have NP := N8.later b9
  obtain ⟨gp, cp, hp, -, hcl⟩ := NP.cells (by rw [ptS_len]; omega)
  rw [ptS_len] at hp hcl
  have HD := Lib.hid (dot_c (ca := 4) (cb := cp) (HG.out _ hb9) T9.sum (HN.out _ hb9) hcl HO.out.smG HO.out.smP HO.out.smQ HO.out.smD)
  have HF := Lib.hid (show Nms w9 W.heap.size p (Lp.ptS (tE t r G) 4) ∧ Nms w9 W.heap.size q (Lp.wtS (tE t r G) 6) ∧ Below W.heap.size W w9 from ⟨NP.base (Nat.le_trans hb4.size T7.bel.size), N9.base (Nat.le_trans hb4.size (T7.later b8).bel.size), hb9⟩)
  have HS9 := Lib.hid (fun W' (b : Below w9.heap.size w9 W') => (by
    have T := T9.later b
    obtain ⟨d, -, -, -, -, -⟩ := T.tcell
    rw [h10] at d
    exact (⟨d, one_cell T.sum⟩ : W'.cell? ⟨ad 10, 0, none⟩ = some (.pointer (some ⟨ad' 9, 0, none⟩)) ∧ W'.cell? ⟨ad' 9, 0, none⟩ = some (.int .i64 0))))
  clear HQ T7 b8 b9 T9 N8 N9 NP hcl hb9 hs7 hg2 hb4 HN HG HO
  rw [HPQ.out.1, HPQ.out.2] at HF
  rw [HPQ.out.1] at HD
  clear HPQ
  subst hp
  go_wp2_with fail
  ((with_reducible refine HD.out.mono ?_); rintro en wA ⟨rfl, bA⟩)
  obtain ⟨dA, cA⟩ := HS9.out _ bA
  have HFA := Lib.hid (show Nms wA W.heap.size _ P ∧ Nms wA W.heap.size q Q ∧ Below W.heap.size W wA from ⟨HF.out.1.later bA, HF.out.2.1.later bA, HF.out.2.2.nxt bA⟩)
  clear HD HS9 HF bA c9 d9
  generalize Lp.dotS G P 4 = v at *
  go_wp2
  ((try simp only [Exit.inBlock, Exit.then]); refine bodyPost_ret (results_four rfl _ _ _) rfl ?_)
  exact ⟨_, _, rfl, HFA.out⟩
def exR : Nat → List Rat × Rat := fun i => Lp.exB.getD i ([], 0)
theorem mo_row : (List.range 7).all (fun i => (if i = 6 then List.replicate 16 0 else rE exR i) == tX (Lp.laid Lp.exB) i) = true := by decide +kernel
theorem mo_bas : (List.range 6).all (fun i => 8 + i == (Lp.laid Lp.exB).bas i) = true := by decide +kernel
theorem mo_b : (List.range 6).all (fun i => (List.range 4).all (fun k => Lp.sm (Lp.at_ (exR i).1 k)) && Lp.sm (exR i).2) = true := by decide +kernel
theorem mo_g : (List.range 4).all (fun k => Lp.sm (Lp.at_ [0, 0, 1, -1] k)) = true := by decide +kernel
theorem mo_s1 : Lp.smT (rdy (Lp.laid Lp.exB) 2) = true := by decide +kernel
theorem mo_a : (List.range 7).all (fun i => Lp.smL (Lp.aimT (rdy (Lp.laid Lp.exB) 2) (Lp.aimR [0, 0, 1, -1] 4) i)) = true := by decide +kernel
theorem mo_ok : Lp.okN 14 (Lp.aimed (rdy (Lp.laid Lp.exB) 2) [0, 0, 1, -1]) 2 = true := by decide +kernel
theorem mo_pt : Lp.ptS (tE (Lp.laid Lp.exB) 2 [0, 0, 1, -1]) 4 = [1, 0, -1, 0] := by decide +kernel
theorem mo_wt : Lp.wtS (tE (Lp.laid Lp.exB) 2 [0, 0, 1, -1]) 6 = [1/2, 0, 1/2, 0, 0, 1] := by decide +kernel
theorem mo_p : (List.range 4).all (fun k => Lp.sm (Lp.at_ [1, 0, -1, 0] k) && Lp.sm (Lp.at_ [0, 0, 1, -1] k * Lp.at_ [1, 0, -1, 0] k) && Lp.sm (Lp.dotS [0, 0, 1, -1] [1, 0, -1, 0] k)) = true := by decide +kernel
theorem mo_v : Lp.dotS [0, 0, 1, -1] [1, 0, -1, 0] 4 = -1 := by decide +kernel
theorem mo_rd : RdO (Lp.laid Lp.exB) 2 where
  sm := Lp.smT_is Lp.sm0.1
  worst := Lp.worst_ex
  piv := Lp.smP_is Lp.sm0.2
  ok := Lp.ok1
  zero := Lp.t2_ex.1
  nob := by
    have : (List.range 6).all (fun i => (rdy (Lp.laid Lp.exB) 2).bas i != 14) = true := by decide +kernel
    intro i hi
    have := List.all_eq_true.1 this i (List.mem_range.2 hi)
    simpa using this
theorem mo_ex : MoO exR [0, 0, 1, -1] (Lp.laid Lp.exB) 2 where
  row := fun i hi => by simpa using List.all_eq_true.1 mo_row i (List.mem_range.2 hi)
  bas := fun i hi => by simpa using List.all_eq_true.1 mo_bas i (List.mem_range.2 hi)
  smB := fun i hi k hk => by
    have := List.all_eq_true.1 mo_b i (List.mem_range.2 hi)
    rw [Bool.and_eq_true] at this
    exact List.all_eq_true.1 this.1 k (List.mem_range.2 hk)
  smM := fun i hi => by
    have := List.all_eq_true.1 mo_b i (List.mem_range.2 hi)
    rw [Bool.and_eq_true] at this
    exact this.2
  rd := mo_rd
  sm1 := Lp.smT_is mo_s1
  smG := fun k hk => List.all_eq_true.1 mo_g k (List.mem_range.2 hk)
  smA := fun i hi => List.all_eq_true.1 mo_a i (List.mem_range.2 (by omega))
  ok := mo_ok
  smP := fun k hk => by
    rw [mo_pt]
    have := List.all_eq_true.1 mo_p k (List.mem_range.2 hk)
    rw [Bool.and_eq_true, Bool.and_eq_true] at this
    exact this.1.1
  smQ := fun k hk => by
    rw [mo_pt]
    have := List.all_eq_true.1 mo_p k (List.mem_range.2 hk)
    rw [Bool.and_eq_true, Bool.and_eq_true] at this
    exact this.1.2
  smD := fun k hk => by
    rw [mo_pt]
    have := List.all_eq_true.1 mo_p k (List.mem_range.2 hk)
    rw [Bool.and_eq_true, Bool.and_eq_true] at this
    exact this.2
theorem most_ex {W : World} (hg : Good W) {gB off cap gg : Nat} {rb : Nat → Nat} (hB : Bds W gB off rb exR) (hN : Num4 W gg [0, 0, 1, -1]) :
    Calls Tryz.prog 42 #[.int .i64 4, .slice (some ⟨gB, off, none⟩) 6 cap, .slice (some ⟨gg, 0, none⟩) 4 4] W (MoP W (-1) [1, 0, -1, 0] [1/2, 0, 1/2, 0, 0, 1]) := by
  have := most_c (cap := cap) hg mo_ex hB hN
  rwa [mo_pt, mo_wt, mo_v] at this
end Go.Proofs.Wk
